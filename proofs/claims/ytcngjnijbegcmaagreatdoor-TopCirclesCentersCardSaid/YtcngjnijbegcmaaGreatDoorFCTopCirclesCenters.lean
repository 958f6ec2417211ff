/- Closed facts on the row of the law TopCirclesCenters. -/
import Derived.Test.YtcngjnijbegcmaaGreatDoorFATopCirclesCenters
import Derived.Test.YtcngjnijbegcmaaGreatDoorFBTopCirclesCenters
namespace Go.Proofs.YtcngjnijbegcmaaGreatDoor.topCirclesCenters
open Go.ChangeShapes Go.WideShapes Go.ChangeAt Go.RowKit
theorem closedFact : joinedFacts Tryz.pinned.checked.prog 4 Tryz.f4 (OpenSpec.ofChange Rows.topCirclesCentersSpec).bare Rows.topCirclesCentersRow = true := by
  unfold joinedFacts
  rw [inPlaceFact, namedFact, unfollowedFact, recursesFact]
  kernel_rfl
end Go.Proofs.YtcngjnijbegcmaaGreatDoor.topCirclesCenters
