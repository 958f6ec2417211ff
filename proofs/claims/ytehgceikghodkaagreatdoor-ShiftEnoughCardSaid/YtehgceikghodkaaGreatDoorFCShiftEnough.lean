/- Closed facts on the row of the law ShiftEnough. -/
import Derived.Test.YtehgceikghodkaaGreatDoorFAShiftEnough
import Derived.Test.YtehgceikghodkaaGreatDoorFBShiftEnough
namespace Go.Proofs.YtehgceikghodkaaGreatDoor.shiftEnough
open Go.ChangeShapes Go.WideShapes Go.ChangeAt Go.RowKit
theorem closedFact : joinedFacts Tryz.pinned.checked.prog 11 Tryz.f11 (OpenSpec.ofChange Rows.shiftEnoughSpec).bare Rows.shiftEnoughRow = true := by
  unfold joinedFacts
  rw [inPlaceFact, namedFact, unfollowedFact, recursesFact]
  kernel_rfl
end Go.Proofs.YtehgceikghodkaaGreatDoor.shiftEnough
