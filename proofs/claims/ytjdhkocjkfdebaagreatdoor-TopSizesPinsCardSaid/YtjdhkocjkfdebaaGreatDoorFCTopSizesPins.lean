/- Closed facts on the row of the law TopSizesPins. -/
import Derived.Test.YtjdhkocjkfdebaaGreatDoorFATopSizesPins
import Derived.Test.YtjdhkocjkfdebaaGreatDoorFBTopSizesPins
namespace Go.Proofs.YtjdhkocjkfdebaaGreatDoor.topSizesPins
open Go.ChangeShapes Go.WideShapes Go.ChangeAt Go.RowKit
theorem closedFact : joinedFacts Tryz.pinned.checked.prog 12 Tryz.f12 (OpenSpec.ofChange Rows.topSizesPinsSpec).bare Rows.topSizesPinsRow = true := by
  unfold joinedFacts
  rw [inPlaceFact, namedFact, unfollowedFact, recursesFact]
  kernel_rfl
end Go.Proofs.YtjdhkocjkfdebaaGreatDoor.topSizesPins
