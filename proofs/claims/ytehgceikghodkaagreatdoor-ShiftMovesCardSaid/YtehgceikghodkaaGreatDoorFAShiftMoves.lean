/- Closed facts on the row of the law ShiftMoves. -/
import Derived.Test.YtehgceikghodkaaGreatDoorRows
import Derived.Test.YtehgceikghodkaaGreatDoorChecked
import Derived.WalkKit
import Derived.ProofKit
import Derived.OpenShut
import Derived.Deep.DeepHandedRow
namespace Go.Proofs.YtehgceikghodkaaGreatDoor.shiftMoves
open Go.ChangeShapes Go.WideShapes Go.ChangeAt Go.RowKit
theorem inPlaceFact : Tryz.pinned.checked.prog.inPlace 10 = Rows.shiftMovesRow.inPlace := by kernel_rfl
theorem namedFact : Tryz.pinned.checked.prog.varsNamed 10 = Rows.shiftMovesRow.named := by kernel_rfl
end Go.Proofs.YtehgceikghodkaaGreatDoor.shiftMoves
