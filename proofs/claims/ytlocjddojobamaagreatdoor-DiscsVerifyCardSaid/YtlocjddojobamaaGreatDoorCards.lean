/-
  DERIVED. GIVEN WITH THE SEED: THE CARDS: each row of YtlocjddojobamaaGreatDoorRows.lean that lists a variable, with what it lists TIED to the program's text (the seventh form; the later family's looks); each row that meets fmt, with fmt's text TOLD by the authors' own Lean function (tested against real Go, not proved from fmt's source: count such statements apart). THE CARD IS WHAT COUNTS. Prove the row's statement (the work); the ties are given (YtlocjddojobamaaGreatDoorTie.lean); close each card by the builder's one call (the guide's Derived/Test/ToyasCard.lean, 'card_holds'). Laid BY PROGRAM, IN A SANDBOX (cutbox-door.mjs). By AI agents, Wed Nov 11 2026. No macro, syntax, notation, axiom, sorry.
-/
import Derived.Test.YtlocjddojobamaaGreatDoorRows
import GoSem.ClaimSeven
namespace Go.Proofs.YtlocjddojobamaaGreatDoor
namespace Rows

/-- THE TIED CARD OF 'metrolablaw12.DiscsRelate'. -/
def discsRelateCard : Claim7 := { stood := { row := discsRelateRow, standIns := [], harness := (true, "cc23f4caf5da1cdc626782fac405f2f4ae76a4aa7a6a77a4ece5cdfdf8f47b56"), looks := true }, kinds := [], alts := [], laidByText := true, laidKinds := [.data, .data, .data, .data, .sentinel, .sentinel, .pinned], laidTests := true, laidLooks := .later }
def DiscsRelateCardSaid : Prop := Claim7.holds Tryz.pinned (.plain (OpenSpec.ofChange discsRelateSpec)) discsRelateCard

/-- THE TIED CARD OF 'metrolablaw12.DiscsMeet'. -/
def discsMeetCard : Claim7 := { stood := { row := discsMeetRow, standIns := [], harness := (true, "cc23f4caf5da1cdc626782fac405f2f4ae76a4aa7a6a77a4ece5cdfdf8f47b56"), looks := true }, kinds := [], alts := [], laidByText := true, laidKinds := [.data, .data, .data, .data, .sentinel, .sentinel, .pinned], laidTests := true, laidLooks := .later }
def DiscsMeetCardSaid : Prop := Claim7.holds Tryz.pinned (.plain (OpenSpec.ofChange discsMeetSpec)) discsMeetCard

/-- THE TIED CARD OF 'metrolablaw12.DiscsContain'. -/
def discsContainCard : Claim7 := { stood := { row := discsContainRow, standIns := [], harness := (true, "cc23f4caf5da1cdc626782fac405f2f4ae76a4aa7a6a77a4ece5cdfdf8f47b56"), looks := true }, kinds := [], alts := [], laidByText := true, laidKinds := [.data, .data, .data, .data, .sentinel, .sentinel, .pinned], laidTests := true, laidLooks := .later }
def DiscsContainCardSaid : Prop := Claim7.holds Tryz.pinned (.plain (OpenSpec.ofChange discsContainSpec)) discsContainCard

/-- THE TIED CARD OF 'metrolablaw12.DiscsVerify'. -/
def discsVerifyCard : Claim7 := { stood := { row := discsVerifyRow, standIns := [], harness := (true, "cc23f4caf5da1cdc626782fac405f2f4ae76a4aa7a6a77a4ece5cdfdf8f47b56"), looks := true }, kinds := [], alts := [], laidByText := true, laidKinds := [.data, .data, .data, .data, .sentinel, .sentinel, .pinned], laidTests := true, laidLooks := .later }
def DiscsVerifyCardSaid : Prop := Claim7.holds Tryz.pinned (.plain (OpenSpec.ofChange discsVerifySpec)) discsVerifyCard

/-- THE TIED CARD OF 'metrolablaw12.DiscsContradict'. -/
def discsContradictCard : Claim7 := { stood := { row := discsContradictRow, standIns := [], harness := (true, "cc23f4caf5da1cdc626782fac405f2f4ae76a4aa7a6a77a4ece5cdfdf8f47b56"), looks := true }, kinds := [], alts := [], laidByText := true, laidKinds := [.data, .data, .data, .data, .sentinel, .sentinel, .pinned], laidTests := true, laidLooks := .later }
def DiscsContradictCardSaid : Prop := Claim7.holds Tryz.pinned (.plain (OpenSpec.ofChange discsContradictSpec)) discsContradictCard

/-- THE TIED CARD OF 'metrolablaw12.DiscsSpare'. -/
def discsSpareCard : Claim7 := { stood := { row := discsSpareRow, standIns := [], harness := (true, "cc23f4caf5da1cdc626782fac405f2f4ae76a4aa7a6a77a4ece5cdfdf8f47b56"), looks := true }, kinds := [], alts := [], laidByText := true, laidKinds := [.data, .data, .data, .data, .sentinel, .sentinel, .pinned], laidTests := true, laidLooks := .later }
def DiscsSpareCardSaid : Prop := Claim7.holds Tryz.pinned (.plain (OpenSpec.ofChange discsSpareSpec)) discsSpareCard

/-- THE TIED CARD OF 'metrolablaw12.DiscsHelly'. -/
def discsHellyCard : Claim7 := { stood := { row := discsHellyRow, standIns := [], harness := (true, "cc23f4caf5da1cdc626782fac405f2f4ae76a4aa7a6a77a4ece5cdfdf8f47b56"), looks := true }, kinds := [], alts := [], laidByText := true, laidKinds := [.data, .data, .data, .data, .sentinel, .sentinel, .pinned], laidTests := true, laidLooks := .later }
def DiscsHellyCardSaid : Prop := Claim7.holds Tryz.pinned (.plain (OpenSpec.ofChange discsHellySpec)) discsHellyCard

/-- THE TIED CARD OF 'metrolablaw12.DiscsEnclose'. -/
def discsEncloseCard : Claim7 := { stood := { row := discsEncloseRow, standIns := [], harness := (true, "cc23f4caf5da1cdc626782fac405f2f4ae76a4aa7a6a77a4ece5cdfdf8f47b56"), looks := true }, kinds := [], alts := [], laidByText := true, laidKinds := [.data, .data, .data, .data, .sentinel, .sentinel, .pinned], laidTests := true, laidLooks := .later }
def DiscsEncloseCardSaid : Prop := Claim7.holds Tryz.pinned (.plain (OpenSpec.ofChange discsEncloseSpec)) discsEncloseCard

/-- THE SECOND FORM's CARD OF 'metrolablaw12.DiscsRelate'. -/
def discsRelateUptoCard : Claim7 := { stood := { row := discsRelateUptoRow, standIns := [], harness := (true, "cc23f4caf5da1cdc626782fac405f2f4ae76a4aa7a6a77a4ece5cdfdf8f47b56"), looks := true }, kinds := [], alts := [], laidByText := true, laidKinds := [.data, .data, .data, .data, .sentinel, .sentinel, .pinned], laidTests := true, laidLooks := .later }
def DiscsRelateUptoCardSaid : Prop := Claim7.holds Tryz.pinned (.plain (OpenSpec.upto discsRelateSpec)) discsRelateUptoCard

/-- THE SECOND FORM's CARD OF 'metrolablaw12.DiscsMeet'. -/
def discsMeetUptoCard : Claim7 := { stood := { row := discsMeetUptoRow, standIns := [], harness := (true, "cc23f4caf5da1cdc626782fac405f2f4ae76a4aa7a6a77a4ece5cdfdf8f47b56"), looks := true }, kinds := [], alts := [], laidByText := true, laidKinds := [.data, .data, .data, .data, .sentinel, .sentinel, .pinned], laidTests := true, laidLooks := .later }
def DiscsMeetUptoCardSaid : Prop := Claim7.holds Tryz.pinned (.plain (OpenSpec.upto discsMeetSpec)) discsMeetUptoCard

/-- THE SECOND FORM's CARD OF 'metrolablaw12.DiscsContain'. -/
def discsContainUptoCard : Claim7 := { stood := { row := discsContainUptoRow, standIns := [], harness := (true, "cc23f4caf5da1cdc626782fac405f2f4ae76a4aa7a6a77a4ece5cdfdf8f47b56"), looks := true }, kinds := [], alts := [], laidByText := true, laidKinds := [.data, .data, .data, .data, .sentinel, .sentinel, .pinned], laidTests := true, laidLooks := .later }
def DiscsContainUptoCardSaid : Prop := Claim7.holds Tryz.pinned (.plain (OpenSpec.upto discsContainSpec)) discsContainUptoCard

/-- THE SECOND FORM's CARD OF 'metrolablaw12.DiscsVerify'. -/
def discsVerifyUptoCard : Claim7 := { stood := { row := discsVerifyUptoRow, standIns := [], harness := (true, "cc23f4caf5da1cdc626782fac405f2f4ae76a4aa7a6a77a4ece5cdfdf8f47b56"), looks := true }, kinds := [], alts := [], laidByText := true, laidKinds := [.data, .data, .data, .data, .sentinel, .sentinel, .pinned], laidTests := true, laidLooks := .later }
def DiscsVerifyUptoCardSaid : Prop := Claim7.holds Tryz.pinned (.plain (OpenSpec.upto discsVerifySpec)) discsVerifyUptoCard

/-- THE SECOND FORM's CARD OF 'metrolablaw12.DiscsContradict'. -/
def discsContradictUptoCard : Claim7 := { stood := { row := discsContradictUptoRow, standIns := [], harness := (true, "cc23f4caf5da1cdc626782fac405f2f4ae76a4aa7a6a77a4ece5cdfdf8f47b56"), looks := true }, kinds := [], alts := [], laidByText := true, laidKinds := [.data, .data, .data, .data, .sentinel, .sentinel, .pinned], laidTests := true, laidLooks := .later }
def DiscsContradictUptoCardSaid : Prop := Claim7.holds Tryz.pinned (.plain (OpenSpec.upto discsContradictSpec)) discsContradictUptoCard

/-- THE SECOND FORM's CARD OF 'metrolablaw12.DiscsSpare'. -/
def discsSpareUptoCard : Claim7 := { stood := { row := discsSpareUptoRow, standIns := [], harness := (true, "cc23f4caf5da1cdc626782fac405f2f4ae76a4aa7a6a77a4ece5cdfdf8f47b56"), looks := true }, kinds := [], alts := [], laidByText := true, laidKinds := [.data, .data, .data, .data, .sentinel, .sentinel, .pinned], laidTests := true, laidLooks := .later }
def DiscsSpareUptoCardSaid : Prop := Claim7.holds Tryz.pinned (.plain (OpenSpec.upto discsSpareSpec)) discsSpareUptoCard

/-- THE SECOND FORM's CARD OF 'metrolablaw12.DiscsHelly'. -/
def discsHellyUptoCard : Claim7 := { stood := { row := discsHellyUptoRow, standIns := [], harness := (true, "cc23f4caf5da1cdc626782fac405f2f4ae76a4aa7a6a77a4ece5cdfdf8f47b56"), looks := true }, kinds := [], alts := [], laidByText := true, laidKinds := [.data, .data, .data, .data, .sentinel, .sentinel, .pinned], laidTests := true, laidLooks := .later }
def DiscsHellyUptoCardSaid : Prop := Claim7.holds Tryz.pinned (.plain (OpenSpec.upto discsHellySpec)) discsHellyUptoCard

/-- THE SECOND FORM's CARD OF 'metrolablaw12.DiscsEnclose'. -/
def discsEncloseUptoCard : Claim7 := { stood := { row := discsEncloseUptoRow, standIns := [], harness := (true, "cc23f4caf5da1cdc626782fac405f2f4ae76a4aa7a6a77a4ece5cdfdf8f47b56"), looks := true }, kinds := [], alts := [], laidByText := true, laidKinds := [.data, .data, .data, .data, .sentinel, .sentinel, .pinned], laidTests := true, laidLooks := .later }
def DiscsEncloseUptoCardSaid : Prop := Claim7.holds Tryz.pinned (.plain (OpenSpec.upto discsEncloseSpec)) discsEncloseUptoCard
end Rows
end Go.Proofs.YtlocjddojobamaaGreatDoor
