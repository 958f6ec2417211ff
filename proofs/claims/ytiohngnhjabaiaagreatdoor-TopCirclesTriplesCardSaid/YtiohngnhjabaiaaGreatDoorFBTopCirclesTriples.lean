/- Closed facts on the row of the law TopCirclesTriples. -/
import Derived.Test.YtiohngnhjabaiaaGreatDoorRows
import Derived.Test.YtiohngnhjabaiaaGreatDoorChecked
import Derived.WalkKit
import Derived.ProofKit
import Derived.OpenShut
import Derived.Deep.DeepHandedRow
namespace Go.Proofs.YtiohngnhjabaiaaGreatDoor.topCirclesTriples
open Go.ChangeShapes Go.WideShapes Go.ChangeAt Go.RowKit
theorem unfollowedFact : Tryz.pinned.checked.prog.unfollowed 3 = Rows.topCirclesTriplesRow.unfollowed := by kernel_rfl
theorem recursesFact : Tryz.pinned.checked.prog.recurses 3 = Rows.topCirclesTriplesRow.recurses := by kernel_rfl
end Go.Proofs.YtiohngnhjabaiaaGreatDoor.topCirclesTriples
