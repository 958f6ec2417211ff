/- Closed facts on the row of the law ShiftDoes. -/
import Derived.Test.YtehgceikghodkaaGreatDoorFAShiftDoes
import Derived.Test.YtehgceikghodkaaGreatDoorFBShiftDoes
namespace Go.Proofs.YtehgceikghodkaaGreatDoor.shiftDoes
open Go.ChangeShapes Go.WideShapes Go.ChangeAt Go.RowKit
theorem closedFact : joinedFacts Tryz.pinned.checked.prog 7 Tryz.f7 (OpenSpec.ofChange Rows.shiftDoesSpec).bare Rows.shiftDoesRow = true := by
  unfold joinedFacts
  rw [inPlaceFact, namedFact, unfollowedFact, recursesFact]
  kernel_rfl
end Go.Proofs.YtehgceikghodkaaGreatDoor.shiftDoes
