/- The law EncloseCircles: whether it goes. -/
import Derived.Test.YtiohngnhjabaiaaGreatDoorFCEncloseCircles
import Derived.Test.YtiohngnhjabaiaaGreatDoorCards
namespace Go.Proofs.YtiohngnhjabaiaaGreatDoor.encloseCircles
open Go.ChangeShapes Go.WideShapes Go.ChangeAt Go.RowKit
theorem goesF : false = Rows.encloseCirclesRow.goesBy Tryz.pinned.checked.prog := by kernel_rfl
end Go.Proofs.YtiohngnhjabaiaaGreatDoor.encloseCircles
