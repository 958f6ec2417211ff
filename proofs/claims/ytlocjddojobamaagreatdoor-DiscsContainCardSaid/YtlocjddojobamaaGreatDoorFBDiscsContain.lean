/- Closed facts on the row of the law DiscsContain. -/
import Derived.Test.YtlocjddojobamaaGreatDoorRows
import Derived.Test.YtlocjddojobamaaGreatDoorChecked
import Derived.WalkKit
import Derived.ProofKit
import Derived.OpenShut
import Derived.Deep.DeepHandedRow
namespace Go.Proofs.YtlocjddojobamaaGreatDoor.discsContain
open Go.ChangeShapes Go.WideShapes Go.ChangeAt Go.RowKit
theorem unfollowedFact : Tryz.pinned.checked.prog.unfollowed 5 = Rows.discsContainRow.unfollowed := by kernel_rfl
theorem recursesFact : Tryz.pinned.checked.prog.recurses 5 = Rows.discsContainRow.recurses := by kernel_rfl
end Go.Proofs.YtlocjddojobamaaGreatDoor.discsContain
