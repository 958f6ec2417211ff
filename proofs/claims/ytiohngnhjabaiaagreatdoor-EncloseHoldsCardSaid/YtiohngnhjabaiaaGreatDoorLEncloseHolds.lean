/- The card of the law EncloseHolds. -/
import Derived.Test.YtiohngnhjabaiaaGreatDoorFDEncloseHolds
import Derived.Test.YtiohngnhjabaiaaGreatDoorFEEncloseHolds
namespace Go.Proofs.YtiohngnhjabaiaaGreatDoor.encloseHolds
open Go.ChangeShapes Go.WideShapes Go.ChangeAt Go.RowKit Go.Eng
theorem card : Rows.EncloseHoldsCardSaid :=
  Claim7.holds_tied_plain_at .later [] _ _ _ _ said (fun _ h => by cases h) (by kernel_rfl) (fun _ h => by cases h) encloseHolds_row_tie rfl ⟨rfl, rfl⟩ (by kernel_rfl) rfl plainRow goesF
end Go.Proofs.YtiohngnhjabaiaaGreatDoor.encloseHolds
