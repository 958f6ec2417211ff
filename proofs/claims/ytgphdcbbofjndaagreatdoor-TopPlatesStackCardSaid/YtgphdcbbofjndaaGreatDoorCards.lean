/-
  DERIVED. GIVEN WITH THE SEED: THE CARDS: each row of YtgphdcbbofjndaaGreatDoorRows.lean that lists a variable, with what it lists TIED to the program's text (the seventh form; the later family's looks); each row that meets fmt, with fmt's text TOLD by the authors' own Lean function (tested against real Go, not proved from fmt's source: count such statements apart). THE CARD IS WHAT COUNTS. Prove the row's statement (the work); the ties are given (YtgphdcbbofjndaaGreatDoorTie.lean); close each card by the builder's one call (the guide's Derived/Test/ToyasCard.lean, 'card_holds'). Laid BY PROGRAM, IN A SANDBOX (cutbox-door.mjs). By AI agents, Wed Nov 11 2026. No macro, syntax, notation, axiom, sorry.
-/
import Derived.Test.YtgphdcbbofjndaaGreatDoorRows
import GoSem.ClaimSeven
namespace Go.Proofs.YtgphdcbbofjndaaGreatDoor
namespace Rows

/-- THE TIED CARD OF 'metrolabtop.TopPlatesStack'. -/
def topPlatesStackCard : Claim7 := { stood := { row := topPlatesStackRow, standIns := [], harness := (true, "b01e57511662cd52fb86cb7f8d9bd5ad4a05d9c7e6fd124b3373ddc636ea86e9"), looks := true }, kinds := [], alts := [], laidByText := true, laidKinds := [.data, .data, .data, .data, .data, .sentinel, .sentinel, .pinned], laidTests := true, laidLooks := .later }
def TopPlatesStackCardSaid : Prop := Claim7.holds Tryz.pinned (.plain (OpenSpec.ofChange topPlatesStackSpec)) topPlatesStackCard

/-- THE SECOND FORM's CARD OF 'metrolabtop.TopPlatesStack'. -/
def topPlatesStackUptoCard : Claim7 := { stood := { row := topPlatesStackUptoRow, standIns := [], harness := (true, "b01e57511662cd52fb86cb7f8d9bd5ad4a05d9c7e6fd124b3373ddc636ea86e9"), looks := true }, kinds := [], alts := [], laidByText := true, laidKinds := [.data, .data, .data, .data, .data, .sentinel, .sentinel, .pinned], laidTests := true, laidLooks := .later }
def TopPlatesStackUptoCardSaid : Prop := Claim7.holds Tryz.pinned (.plain (OpenSpec.upto topPlatesStackSpec)) topPlatesStackUptoCard
end Rows
end Go.Proofs.YtgphdcbbofjndaaGreatDoor
