/- Closed facts on the row of the law ShiftEnough. -/
import Derived.Test.YtehgceikghodkaaGreatDoorRows
import Derived.Test.YtehgceikghodkaaGreatDoorChecked
import Derived.WalkKit
import Derived.ProofKit
import Derived.OpenShut
import Derived.Deep.DeepHandedRow
namespace Go.Proofs.YtehgceikghodkaaGreatDoor.shiftEnough
open Go.ChangeShapes Go.WideShapes Go.ChangeAt Go.RowKit
theorem unfollowedFact : Tryz.pinned.checked.prog.unfollowed 11 = Rows.shiftEnoughRow.unfollowed := by kernel_rfl
theorem recursesFact : Tryz.pinned.checked.prog.recurses 11 = Rows.shiftEnoughRow.recurses := by kernel_rfl
end Go.Proofs.YtehgceikghodkaaGreatDoor.shiftEnough
