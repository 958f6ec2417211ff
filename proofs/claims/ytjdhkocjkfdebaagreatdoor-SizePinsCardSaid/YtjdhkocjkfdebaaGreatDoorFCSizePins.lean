/- Closed facts on the row of the law SizePins. -/
import Derived.Test.YtjdhkocjkfdebaaGreatDoorFASizePins
import Derived.Test.YtjdhkocjkfdebaaGreatDoorFBSizePins
namespace Go.Proofs.YtjdhkocjkfdebaaGreatDoor.sizePins
open Go.ChangeShapes Go.WideShapes Go.ChangeAt Go.RowKit
theorem closedFact : joinedFacts Tryz.pinned.checked.prog 5 Tryz.f5 (OpenSpec.ofChange Rows.sizePinsSpec).bare Rows.sizePinsRow = true := by
  unfold joinedFacts
  rw [inPlaceFact, namedFact, unfollowedFact, recursesFact]
  kernel_rfl
end Go.Proofs.YtjdhkocjkfdebaaGreatDoor.sizePins
