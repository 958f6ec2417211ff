/- Closed facts on the row of the law DiscsVerify. -/
import Derived.Test.YtlocjddojobamaaGreatDoorRows
import Derived.Test.YtlocjddojobamaaGreatDoorChecked
import Derived.WalkKit
import Derived.ProofKit
import Derived.OpenShut
import Derived.Deep.DeepHandedRow
namespace Go.Proofs.YtlocjddojobamaaGreatDoor.discsVerify
open Go.ChangeShapes Go.WideShapes Go.ChangeAt Go.RowKit
theorem unfollowedFact : Tryz.pinned.checked.prog.unfollowed 6 = Rows.discsVerifyRow.unfollowed := by kernel_rfl
theorem recursesFact : Tryz.pinned.checked.prog.recurses 6 = Rows.discsVerifyRow.recurses := by kernel_rfl
end Go.Proofs.YtlocjddojobamaaGreatDoor.discsVerify
