/- Closed facts on the row of the law TopCirclesDiscs. -/
import Derived.Test.YtcngjnijbegcmaaGreatDoorRows
import Derived.Test.YtcngjnijbegcmaaGreatDoorChecked
import Derived.WalkKit
import Derived.ProofKit
import Derived.OpenShut
import Derived.Deep.DeepHandedRow
namespace Go.Proofs.YtcngjnijbegcmaaGreatDoor.topCirclesDiscs
open Go.ChangeShapes Go.WideShapes Go.ChangeAt Go.RowKit
theorem unfollowedFact : Tryz.pinned.checked.prog.unfollowed 5 = Rows.topCirclesDiscsRow.unfollowed := by kernel_rfl
theorem recursesFact : Tryz.pinned.checked.prog.recurses 5 = Rows.topCirclesDiscsRow.recurses := by kernel_rfl
end Go.Proofs.YtcngjnijbegcmaaGreatDoor.topCirclesDiscs
