/- Closed facts on the row of the law DiscsEnclose. -/
import Derived.Test.YtcngjnijbegcmaaGreatDoorRows
import Derived.Test.YtcngjnijbegcmaaGreatDoorChecked
import Derived.WalkKit
import Derived.ProofKit
import Derived.OpenShut
import Derived.Deep.DeepHandedRow
namespace Go.Proofs.YtcngjnijbegcmaaGreatDoor.discsEnclose
open Go.ChangeShapes Go.WideShapes Go.ChangeAt Go.RowKit
theorem unfollowedFact : Tryz.pinned.checked.prog.unfollowed 3 = Rows.discsEncloseRow.unfollowed := by kernel_rfl
theorem recursesFact : Tryz.pinned.checked.prog.recurses 3 = Rows.discsEncloseRow.recurses := by kernel_rfl
end Go.Proofs.YtcngjnijbegcmaaGreatDoor.discsEnclose
