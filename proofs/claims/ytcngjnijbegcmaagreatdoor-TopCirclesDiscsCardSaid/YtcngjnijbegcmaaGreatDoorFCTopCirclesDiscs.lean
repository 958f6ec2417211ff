/- Closed facts on the row of the law TopCirclesDiscs. -/
import Derived.Test.YtcngjnijbegcmaaGreatDoorFATopCirclesDiscs
import Derived.Test.YtcngjnijbegcmaaGreatDoorFBTopCirclesDiscs
namespace Go.Proofs.YtcngjnijbegcmaaGreatDoor.topCirclesDiscs
open Go.ChangeShapes Go.WideShapes Go.ChangeAt Go.RowKit
theorem closedFact : joinedFacts Tryz.pinned.checked.prog 5 Tryz.f5 (OpenSpec.ofChange Rows.topCirclesDiscsSpec).bare Rows.topCirclesDiscsRow = true := by
  unfold joinedFacts
  rw [inPlaceFact, namedFact, unfollowedFact, recursesFact]
  kernel_rfl
end Go.Proofs.YtcngjnijbegcmaaGreatDoor.topCirclesDiscs
