/- Closed facts on the row of the law ShiftVerifies. -/
import Derived.Test.YtehgceikghodkaaGreatDoorFAShiftVerifies
import Derived.Test.YtehgceikghodkaaGreatDoorFBShiftVerifies
namespace Go.Proofs.YtehgceikghodkaaGreatDoor.shiftVerifies
open Go.ChangeShapes Go.WideShapes Go.ChangeAt Go.RowKit
theorem closedFact : joinedFacts Tryz.pinned.checked.prog 12 Tryz.f12 (OpenSpec.ofChange Rows.shiftVerifiesSpec).bare Rows.shiftVerifiesRow = true := by
  unfold joinedFacts
  rw [inPlaceFact, namedFact, unfollowedFact, recursesFact]
  kernel_rfl
end Go.Proofs.YtehgceikghodkaaGreatDoor.shiftVerifies
