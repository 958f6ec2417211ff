/- The law EncloseProves: whether it goes. -/
import Derived.Test.YtiohngnhjabaiaaGreatDoorFDEncloseProves
namespace Go.Proofs.YtiohngnhjabaiaaGreatDoor.encloseProves
open Go.ChangeShapes Go.WideShapes Go.ChangeAt Go.RowKit Go.Eng
theorem goesF : false = Rows.encloseProvesRow.goesBy Tryz.pinned.checked.prog := by kernel_rfl
end Go.Proofs.YtiohngnhjabaiaaGreatDoor.encloseProves
