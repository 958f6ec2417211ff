/- Closed facts on the row of the law ShiftKeeps. -/
import Derived.Test.YtehgceikghodkaaGreatDoorFAShiftKeeps
import Derived.Test.YtehgceikghodkaaGreatDoorFBShiftKeeps
namespace Go.Proofs.YtehgceikghodkaaGreatDoor.shiftKeeps
open Go.ChangeShapes Go.WideShapes Go.ChangeAt Go.RowKit
theorem closedFact : joinedFacts Tryz.pinned.checked.prog 14 Tryz.f14 (OpenSpec.ofChange Rows.shiftKeepsSpec).bare Rows.shiftKeepsRow = true := by
  unfold joinedFacts
  rw [inPlaceFact, namedFact, unfollowedFact, recursesFact]
  kernel_rfl
end Go.Proofs.YtehgceikghodkaaGreatDoor.shiftKeeps
