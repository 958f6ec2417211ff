/- Closed facts on the row of the law ShiftFinds. -/
import Derived.Test.YtehgceikghodkaaGreatDoorFAShiftFinds
import Derived.Test.YtehgceikghodkaaGreatDoorFBShiftFinds
namespace Go.Proofs.YtehgceikghodkaaGreatDoor.shiftFinds
open Go.ChangeShapes Go.WideShapes Go.ChangeAt Go.RowKit
theorem closedFact : joinedFacts Tryz.pinned.checked.prog 8 Tryz.f8 (OpenSpec.ofChange Rows.shiftFindsSpec).bare Rows.shiftFindsRow = true := by
  unfold joinedFacts
  rw [inPlaceFact, namedFact, unfollowedFact, recursesFact]
  kernel_rfl
end Go.Proofs.YtehgceikghodkaaGreatDoor.shiftFinds
