/- Closed facts on the row of the law TopCirclesCenters. -/
import Derived.Test.YtcngjnijbegcmaaGreatDoorRows
import Derived.Test.YtcngjnijbegcmaaGreatDoorChecked
import Derived.WalkKit
import Derived.ProofKit
import Derived.OpenShut
import Derived.Deep.DeepHandedRow
namespace Go.Proofs.YtcngjnijbegcmaaGreatDoor.topCirclesCenters
open Go.ChangeShapes Go.WideShapes Go.ChangeAt Go.RowKit
theorem unfollowedFact : Tryz.pinned.checked.prog.unfollowed 4 = Rows.topCirclesCentersRow.unfollowed := by kernel_rfl
theorem recursesFact : Tryz.pinned.checked.prog.recurses 4 = Rows.topCirclesCentersRow.recurses := by kernel_rfl
end Go.Proofs.YtcngjnijbegcmaaGreatDoor.topCirclesCenters
