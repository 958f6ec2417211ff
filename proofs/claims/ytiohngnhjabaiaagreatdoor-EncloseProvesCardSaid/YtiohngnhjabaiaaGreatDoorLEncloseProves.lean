/- The card of the law EncloseProves. -/
import Derived.Test.YtiohngnhjabaiaaGreatDoorFDEncloseProves
import Derived.Test.YtiohngnhjabaiaaGreatDoorFEEncloseProves
namespace Go.Proofs.YtiohngnhjabaiaaGreatDoor.encloseProves
open Go.ChangeShapes Go.WideShapes Go.ChangeAt Go.RowKit Go.Eng
theorem card : Rows.EncloseProvesCardSaid :=
  Claim7.holds_tied_plain_at .later [] _ _ _ _ said (fun _ h => by cases h) (by kernel_rfl) (fun _ h => by cases h) encloseProves_row_tie rfl ⟨rfl, rfl⟩ (by kernel_rfl) rfl plainRow goesF
end Go.Proofs.YtiohngnhjabaiaaGreatDoor.encloseProves
