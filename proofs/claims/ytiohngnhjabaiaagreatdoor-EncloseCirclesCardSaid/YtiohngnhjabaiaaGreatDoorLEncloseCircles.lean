/- The card of the law EncloseCircles. -/
import Derived.Test.YtiohngnhjabaiaaGreatDoorFDEncloseCircles
import Derived.Test.YtiohngnhjabaiaaGreatDoorFEEncloseCircles
namespace Go.Proofs.YtiohngnhjabaiaaGreatDoor.encloseCircles
open Go.ChangeShapes Go.WideShapes Go.ChangeAt Go.RowKit Go.Eng
theorem card : Rows.EncloseCirclesCardSaid :=
  Claim7.holds_tied_plain_at .later [] _ _ _ _ said (fun _ h => by cases h) (by kernel_rfl) (fun _ h => by cases h) encloseCircles_row_tie rfl ⟨rfl, rfl⟩ (by kernel_rfl) rfl plainRow goesF
end Go.Proofs.YtiohngnhjabaiaaGreatDoor.encloseCircles
