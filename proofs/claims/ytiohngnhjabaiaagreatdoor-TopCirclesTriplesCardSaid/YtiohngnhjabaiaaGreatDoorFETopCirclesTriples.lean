/- The law TopCirclesTriples: whether it goes. -/
import Derived.Test.YtiohngnhjabaiaaGreatDoorFCTopCirclesTriples
import Derived.Test.YtiohngnhjabaiaaGreatDoorCards
namespace Go.Proofs.YtiohngnhjabaiaaGreatDoor.topCirclesTriples
open Go.ChangeShapes Go.WideShapes Go.ChangeAt Go.RowKit
theorem goesF : false = Rows.topCirclesTriplesRow.goesBy Tryz.pinned.checked.prog := by kernel_rfl
end Go.Proofs.YtiohngnhjabaiaaGreatDoor.topCirclesTriples
