/- The card of the law EncloseSpheres. -/
import Derived.Test.YtiohngnhjabaiaaGreatDoorFDEncloseSpheres
import Derived.Test.YtiohngnhjabaiaaGreatDoorFEEncloseSpheres
namespace Go.Proofs.YtiohngnhjabaiaaGreatDoor.encloseSpheres
open Go.ChangeShapes Go.WideShapes Go.ChangeAt Go.RowKit Go.Eng
theorem card : Rows.EncloseSpheresCardSaid :=
  Claim7.holds_tied_plain_at .later [] _ _ _ _ said (fun _ h => by cases h) (by kernel_rfl) (fun _ h => by cases h) encloseSpheres_row_tie rfl ⟨rfl, rfl⟩ (by kernel_rfl) rfl plainRow goesF
end Go.Proofs.YtiohngnhjabaiaaGreatDoor.encloseSpheres
