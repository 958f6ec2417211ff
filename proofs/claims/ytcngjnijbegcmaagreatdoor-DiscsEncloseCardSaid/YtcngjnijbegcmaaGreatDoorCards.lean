/-
  DERIVED. GIVEN WITH THE SEED: THE CARDS: each row of YtcngjnijbegcmaaGreatDoorRows.lean that lists a variable, with what it lists TIED to the program's text (the seventh form; the later family's looks); each row that meets fmt, with fmt's text TOLD by the authors' own Lean function (tested against real Go, not proved from fmt's source: count such statements apart). THE CARD IS WHAT COUNTS. Prove the row's statement (the work); the ties are given (YtcngjnijbegcmaaGreatDoorTie.lean); close each card by the builder's one call (the guide's Derived/Test/ToyasCard.lean, 'card_holds'). Laid BY PROGRAM, IN A SANDBOX (cutbox-door.mjs). By AI agents, Wed Nov 11 2026. No macro, syntax, notation, axiom, sorry.
-/
import Derived.Test.YtcngjnijbegcmaaGreatDoorRows
import GoSem.ClaimSeven
namespace Go.Proofs.YtcngjnijbegcmaaGreatDoor
namespace Rows

/-- THE TIED CARD OF 'metrolablaw12.DiscsEnclose'. -/
def discsEncloseCard : Claim7 := { stood := { row := discsEncloseRow, standIns := [], harness := (true, "ee1aab08f6b1a966c43a097ea706012daa952a5adf3a1d72a07c4aed2d522e59"), looks := true }, kinds := [], alts := [], laidByText := true, laidKinds := [.data, .data, .data, .data, .sentinel, .sentinel, .pinned], laidTests := true, laidLooks := .later }
def DiscsEncloseCardSaid : Prop := Claim7.holds Tryz.pinned (.plain (OpenSpec.ofChange discsEncloseSpec)) discsEncloseCard

/-- THE TIED CARD OF 'metrolabtop.TopCirclesCenters'. -/
def topCirclesCentersCard : Claim7 := { stood := { row := topCirclesCentersRow, standIns := [], harness := (true, "ee1aab08f6b1a966c43a097ea706012daa952a5adf3a1d72a07c4aed2d522e59"), looks := true }, kinds := [], alts := [], laidByText := true, laidKinds := [.data, .data, .data, .data, .sentinel, .sentinel, .pinned], laidTests := true, laidLooks := .later }
def TopCirclesCentersCardSaid : Prop := Claim7.holds Tryz.pinned (.plain (OpenSpec.ofChange topCirclesCentersSpec)) topCirclesCentersCard

/-- THE TIED CARD OF 'metrolabtop.TopCirclesDiscs'. -/
def topCirclesDiscsCard : Claim7 := { stood := { row := topCirclesDiscsRow, standIns := [], harness := (true, "ee1aab08f6b1a966c43a097ea706012daa952a5adf3a1d72a07c4aed2d522e59"), looks := true }, kinds := [], alts := [], laidByText := true, laidKinds := [.data, .data, .data, .data, .sentinel, .sentinel, .pinned], laidTests := true, laidLooks := .later }
def TopCirclesDiscsCardSaid : Prop := Claim7.holds Tryz.pinned (.plain (OpenSpec.ofChange topCirclesDiscsSpec)) topCirclesDiscsCard

/-- THE SECOND FORM's CARD OF 'metrolablaw12.DiscsEnclose'. -/
def discsEncloseUptoCard : Claim7 := { stood := { row := discsEncloseUptoRow, standIns := [], harness := (true, "ee1aab08f6b1a966c43a097ea706012daa952a5adf3a1d72a07c4aed2d522e59"), looks := true }, kinds := [], alts := [], laidByText := true, laidKinds := [.data, .data, .data, .data, .sentinel, .sentinel, .pinned], laidTests := true, laidLooks := .later }
def DiscsEncloseUptoCardSaid : Prop := Claim7.holds Tryz.pinned (.plain (OpenSpec.upto discsEncloseSpec)) discsEncloseUptoCard

/-- THE SECOND FORM's CARD OF 'metrolabtop.TopCirclesCenters'. -/
def topCirclesCentersUptoCard : Claim7 := { stood := { row := topCirclesCentersUptoRow, standIns := [], harness := (true, "ee1aab08f6b1a966c43a097ea706012daa952a5adf3a1d72a07c4aed2d522e59"), looks := true }, kinds := [], alts := [], laidByText := true, laidKinds := [.data, .data, .data, .data, .sentinel, .sentinel, .pinned], laidTests := true, laidLooks := .later }
def TopCirclesCentersUptoCardSaid : Prop := Claim7.holds Tryz.pinned (.plain (OpenSpec.upto topCirclesCentersSpec)) topCirclesCentersUptoCard

/-- THE SECOND FORM's CARD OF 'metrolabtop.TopCirclesDiscs'. -/
def topCirclesDiscsUptoCard : Claim7 := { stood := { row := topCirclesDiscsUptoRow, standIns := [], harness := (true, "ee1aab08f6b1a966c43a097ea706012daa952a5adf3a1d72a07c4aed2d522e59"), looks := true }, kinds := [], alts := [], laidByText := true, laidKinds := [.data, .data, .data, .data, .sentinel, .sentinel, .pinned], laidTests := true, laidLooks := .later }
def TopCirclesDiscsUptoCardSaid : Prop := Claim7.holds Tryz.pinned (.plain (OpenSpec.upto topCirclesDiscsSpec)) topCirclesDiscsUptoCard
end Rows
end Go.Proofs.YtcngjnijbegcmaaGreatDoor
