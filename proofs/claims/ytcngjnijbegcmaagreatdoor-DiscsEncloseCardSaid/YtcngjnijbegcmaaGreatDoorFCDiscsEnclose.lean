/- Closed facts on the row of the law DiscsEnclose. -/
import Derived.Test.YtcngjnijbegcmaaGreatDoorFADiscsEnclose
import Derived.Test.YtcngjnijbegcmaaGreatDoorFBDiscsEnclose
namespace Go.Proofs.YtcngjnijbegcmaaGreatDoor.discsEnclose
open Go.ChangeShapes Go.WideShapes Go.ChangeAt Go.RowKit
theorem closedFact : joinedFacts Tryz.pinned.checked.prog 3 Tryz.f3 (OpenSpec.ofChange Rows.discsEncloseSpec).bare Rows.discsEncloseRow = true := by
  unfold joinedFacts
  rw [inPlaceFact, namedFact, unfollowedFact, recursesFact]
  kernel_rfl
end Go.Proofs.YtcngjnijbegcmaaGreatDoor.discsEnclose
