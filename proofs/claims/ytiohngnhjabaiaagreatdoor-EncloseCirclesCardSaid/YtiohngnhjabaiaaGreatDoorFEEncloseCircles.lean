/- The law EncloseCircles: whether it goes. -/
import Derived.Test.YtiohngnhjabaiaaGreatDoorFDEncloseCircles
namespace Go.Proofs.YtiohngnhjabaiaaGreatDoor.encloseCircles
open Go.ChangeShapes Go.WideShapes Go.ChangeAt Go.RowKit Go.Eng
theorem goesF : false = Rows.encloseCirclesRow.goesBy Tryz.pinned.checked.prog := by kernel_rfl
end Go.Proofs.YtiohngnhjabaiaaGreatDoor.encloseCircles
