/- Closed facts on the row of the law ShiftNeeds. -/
import Derived.Test.YtehgceikghodkaaGreatDoorFAShiftNeeds
import Derived.Test.YtehgceikghodkaaGreatDoorFBShiftNeeds
namespace Go.Proofs.YtehgceikghodkaaGreatDoor.shiftNeeds
open Go.ChangeShapes Go.WideShapes Go.ChangeAt Go.RowKit
theorem closedFact : joinedFacts Tryz.pinned.checked.prog 9 Tryz.f9 (OpenSpec.ofChange Rows.shiftNeedsSpec).bare Rows.shiftNeedsRow = true := by
  unfold joinedFacts
  rw [inPlaceFact, namedFact, unfollowedFact, recursesFact]
  kernel_rfl
end Go.Proofs.YtehgceikghodkaaGreatDoor.shiftNeeds
