/- Closed facts on the row of the law TopSizesRound. -/
import Derived.Test.YtjdhkocjkfdebaaGreatDoorFATopSizesRound
import Derived.Test.YtjdhkocjkfdebaaGreatDoorFBTopSizesRound
namespace Go.Proofs.YtjdhkocjkfdebaaGreatDoor.topSizesRound
open Go.ChangeShapes Go.WideShapes Go.ChangeAt Go.RowKit
theorem closedFact : joinedFacts Tryz.pinned.checked.prog 11 Tryz.f11 (OpenSpec.ofChange Rows.topSizesRoundSpec).bare Rows.topSizesRoundRow = true := by
  unfold joinedFacts
  rw [inPlaceFact, namedFact, unfollowedFact, recursesFact]
  kernel_rfl
end Go.Proofs.YtjdhkocjkfdebaaGreatDoor.topSizesRound
