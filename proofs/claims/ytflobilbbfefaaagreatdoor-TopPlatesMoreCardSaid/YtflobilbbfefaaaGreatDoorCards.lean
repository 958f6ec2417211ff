/-
  DERIVED. GIVEN WITH THE SEED: THE CARDS: each row of YtflobilbbfefaaaGreatDoorRows.lean that lists a variable, with what it lists TIED to the program's text (the seventh form; the later family's looks); each row that meets fmt, with fmt's text TOLD by the authors' own Lean function (tested against real Go, not proved from fmt's source: count such statements apart). THE CARD IS WHAT COUNTS. Prove the row's statement (the work); the ties are given (YtflobilbbfefaaaGreatDoorTie.lean); close each card by the builder's one call (the guide's Derived/Test/ToyasCard.lean, 'card_holds'). Laid BY PROGRAM, IN A SANDBOX (cutbox-door.mjs). By AI agents, Wed Nov 11 2026. No macro, syntax, notation, axiom, sorry.
-/
import Derived.Test.YtflobilbbfefaaaGreatDoorRows
import GoSem.ClaimSeven
namespace Go.Proofs.YtflobilbbfefaaaGreatDoor
namespace Rows

/-- THE TIED CARD OF 'metrolabtop.TopPlatesMore'. -/
def topPlatesMoreCard : Claim7 := { stood := { row := topPlatesMoreRow, standIns := [], harness := (true, "d0c66b5a14358408a8c3b69e0debd2dda81cf412b84749a79bba462e7d003f74"), looks := true }, kinds := [], alts := [], laidByText := true, laidKinds := [.data, .data, .data, .data, .data, .sentinel, .sentinel, .pinned], laidTests := true, laidLooks := .later }
def TopPlatesMoreCardSaid : Prop := Claim7.holds Tryz.pinned (.plain (OpenSpec.ofChange topPlatesMoreSpec)) topPlatesMoreCard

/-- THE TIED CARD OF 'metrolablaw12.DiscsHelly'. -/
def discsHellyCard : Claim7 := { stood := { row := discsHellyRow, standIns := [], harness := (true, "d0c66b5a14358408a8c3b69e0debd2dda81cf412b84749a79bba462e7d003f74"), looks := true }, kinds := [], alts := [], laidByText := true, laidKinds := [.data, .data, .data, .data, .sentinel, .sentinel, .pinned], laidTests := true, laidLooks := .later }
def DiscsHellyCardSaid : Prop := Claim7.holds Tryz.pinned (.plain (OpenSpec.ofChange discsHellySpec)) discsHellyCard

/-- THE TIED CARD OF 'metrolablaw45.ShiftProves'. -/
def shiftProvesCard : Claim7 := { stood := { row := shiftProvesRow, standIns := [], harness := (true, "d0c66b5a14358408a8c3b69e0debd2dda81cf412b84749a79bba462e7d003f74"), looks := true }, kinds := [], alts := [], laidByText := true, laidKinds := [.data, .data, .data, .data, .data, .sentinel, .sentinel, .pinned], laidTests := true, laidLooks := .later }
def ShiftProvesCardSaid : Prop := Claim7.holds Tryz.pinned (.plain (OpenSpec.ofChange shiftProvesSpec)) shiftProvesCard

/-- THE SECOND FORM's CARD OF 'metrolabtop.TopPlatesMore'. -/
def topPlatesMoreUptoCard : Claim7 := { stood := { row := topPlatesMoreUptoRow, standIns := [], harness := (true, "d0c66b5a14358408a8c3b69e0debd2dda81cf412b84749a79bba462e7d003f74"), looks := true }, kinds := [], alts := [], laidByText := true, laidKinds := [.data, .data, .data, .data, .data, .sentinel, .sentinel, .pinned], laidTests := true, laidLooks := .later }
def TopPlatesMoreUptoCardSaid : Prop := Claim7.holds Tryz.pinned (.plain (OpenSpec.upto topPlatesMoreSpec)) topPlatesMoreUptoCard

/-- THE SECOND FORM's CARD OF 'metrolablaw12.DiscsHelly'. -/
def discsHellyUptoCard : Claim7 := { stood := { row := discsHellyUptoRow, standIns := [], harness := (true, "d0c66b5a14358408a8c3b69e0debd2dda81cf412b84749a79bba462e7d003f74"), looks := true }, kinds := [], alts := [], laidByText := true, laidKinds := [.data, .data, .data, .data, .sentinel, .sentinel, .pinned], laidTests := true, laidLooks := .later }
def DiscsHellyUptoCardSaid : Prop := Claim7.holds Tryz.pinned (.plain (OpenSpec.upto discsHellySpec)) discsHellyUptoCard

/-- THE SECOND FORM's CARD OF 'metrolablaw45.ShiftProves'. -/
def shiftProvesUptoCard : Claim7 := { stood := { row := shiftProvesUptoRow, standIns := [], harness := (true, "d0c66b5a14358408a8c3b69e0debd2dda81cf412b84749a79bba462e7d003f74"), looks := true }, kinds := [], alts := [], laidByText := true, laidKinds := [.data, .data, .data, .data, .data, .sentinel, .sentinel, .pinned], laidTests := true, laidLooks := .later }
def ShiftProvesUptoCardSaid : Prop := Claim7.holds Tryz.pinned (.plain (OpenSpec.upto shiftProvesSpec)) shiftProvesUptoCard
end Rows
end Go.Proofs.YtflobilbbfefaaaGreatDoor
