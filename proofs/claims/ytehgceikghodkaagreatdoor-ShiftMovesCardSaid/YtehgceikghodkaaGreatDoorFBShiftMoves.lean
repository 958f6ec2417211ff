/- Closed facts on the row of the law ShiftMoves. -/
import Derived.Test.YtehgceikghodkaaGreatDoorRows
import Derived.Test.YtehgceikghodkaaGreatDoorChecked
import Derived.WalkKit
import Derived.ProofKit
import Derived.OpenShut
import Derived.Deep.DeepHandedRow
namespace Go.Proofs.YtehgceikghodkaaGreatDoor.shiftMoves
open Go.ChangeShapes Go.WideShapes Go.ChangeAt Go.RowKit
theorem unfollowedFact : Tryz.pinned.checked.prog.unfollowed 10 = Rows.shiftMovesRow.unfollowed := by kernel_rfl
theorem recursesFact : Tryz.pinned.checked.prog.recurses 10 = Rows.shiftMovesRow.recurses := by kernel_rfl
end Go.Proofs.YtehgceikghodkaaGreatDoor.shiftMoves
