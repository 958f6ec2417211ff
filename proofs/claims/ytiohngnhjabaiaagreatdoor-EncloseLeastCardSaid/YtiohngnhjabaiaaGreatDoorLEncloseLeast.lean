/- The card of the law EncloseLeast. -/
import Derived.Test.YtiohngnhjabaiaaGreatDoorFDEncloseLeast
import Derived.Test.YtiohngnhjabaiaaGreatDoorFEEncloseLeast
namespace Go.Proofs.YtiohngnhjabaiaaGreatDoor.encloseLeast
open Go.ChangeShapes Go.WideShapes Go.ChangeAt Go.RowKit Go.Eng
theorem card : Rows.EncloseLeastCardSaid :=
  Claim7.holds_tied_plain_at .later [] _ _ _ _ said (fun _ h => by cases h) (by kernel_rfl) (fun _ h => by cases h) encloseLeast_row_tie rfl ⟨rfl, rfl⟩ (by kernel_rfl) rfl plainRow goesF
end Go.Proofs.YtiohngnhjabaiaaGreatDoor.encloseLeast
