/- Closed facts on the row of the law ShiftMoves. -/
import Derived.Test.YtehgceikghodkaaGreatDoorFAShiftMoves
import Derived.Test.YtehgceikghodkaaGreatDoorFBShiftMoves
namespace Go.Proofs.YtehgceikghodkaaGreatDoor.shiftMoves
open Go.ChangeShapes Go.WideShapes Go.ChangeAt Go.RowKit
theorem closedFact : joinedFacts Tryz.pinned.checked.prog 10 Tryz.f10 (OpenSpec.ofChange Rows.shiftMovesSpec).bare Rows.shiftMovesRow = true := by
  unfold joinedFacts
  rw [inPlaceFact, namedFact, unfollowedFact, recursesFact]
  kernel_rfl
end Go.Proofs.YtehgceikghodkaaGreatDoor.shiftMoves
