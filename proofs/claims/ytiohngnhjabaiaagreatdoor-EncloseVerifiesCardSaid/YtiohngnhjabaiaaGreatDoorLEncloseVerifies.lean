/- The card of the law EncloseVerifies. -/
import Derived.Test.YtiohngnhjabaiaaGreatDoorFDEncloseVerifies
import Derived.Test.YtiohngnhjabaiaaGreatDoorFEEncloseVerifies
namespace Go.Proofs.YtiohngnhjabaiaaGreatDoor.encloseVerifies
open Go.ChangeShapes Go.WideShapes Go.ChangeAt Go.RowKit Go.Eng
theorem card : Rows.EncloseVerifiesCardSaid :=
  Claim7.holds_tied_plain_at .later [] _ _ _ _ said (fun _ h => by cases h) (by kernel_rfl) (fun _ h => by cases h) encloseVerifies_row_tie rfl ⟨rfl, rfl⟩ (by kernel_rfl) rfl plainRow goesF
end Go.Proofs.YtiohngnhjabaiaaGreatDoor.encloseVerifies
