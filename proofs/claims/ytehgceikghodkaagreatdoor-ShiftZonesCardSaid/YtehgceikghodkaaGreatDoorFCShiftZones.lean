/- Closed facts on the row of the law ShiftZones. -/
import Derived.Test.YtehgceikghodkaaGreatDoorFAShiftZones
import Derived.Test.YtehgceikghodkaaGreatDoorFBShiftZones
namespace Go.Proofs.YtehgceikghodkaaGreatDoor.shiftZones
open Go.ChangeShapes Go.WideShapes Go.ChangeAt Go.RowKit
theorem closedFact : joinedFacts Tryz.pinned.checked.prog 6 Tryz.f6 (OpenSpec.ofChange Rows.shiftZonesSpec).bare Rows.shiftZonesRow = true := by
  unfold joinedFacts
  rw [inPlaceFact, namedFact, unfollowedFact, recursesFact]
  kernel_rfl
end Go.Proofs.YtehgceikghodkaaGreatDoor.shiftZones
