/- Closed facts on the row of the law EncloseCircles. -/
import Derived.Test.YtiohngnhjabaiaaGreatDoorRows
import Derived.Test.YtiohngnhjabaiaaGreatDoorChecked
import Derived.WalkKit
import Derived.ProofKit
import Derived.OpenShut
import Derived.Deep.DeepHandedRow
namespace Go.Proofs.YtiohngnhjabaiaaGreatDoor.encloseCircles
open Go.ChangeShapes Go.WideShapes Go.ChangeAt Go.RowKit
theorem unfollowedFact : Tryz.pinned.checked.prog.unfollowed 4 = Rows.encloseCirclesRow.unfollowed := by kernel_rfl
theorem recursesFact : Tryz.pinned.checked.prog.recurses 4 = Rows.encloseCirclesRow.recurses := by kernel_rfl
end Go.Proofs.YtiohngnhjabaiaaGreatDoor.encloseCircles
