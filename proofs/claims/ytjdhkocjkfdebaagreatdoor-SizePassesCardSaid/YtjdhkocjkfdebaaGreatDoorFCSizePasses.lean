/- Closed facts on the row of the law SizePasses. -/
import Derived.Test.YtjdhkocjkfdebaaGreatDoorFASizePasses
import Derived.Test.YtjdhkocjkfdebaaGreatDoorFBSizePasses
namespace Go.Proofs.YtjdhkocjkfdebaaGreatDoor.sizePasses
open Go.ChangeShapes Go.WideShapes Go.ChangeAt Go.RowKit
theorem closedFact : joinedFacts Tryz.pinned.checked.prog 10 Tryz.f10 (OpenSpec.ofChange Rows.sizePassesSpec).bare Rows.sizePassesRow = true := by
  unfold joinedFacts
  rw [inPlaceFact, namedFact, unfollowedFact, recursesFact]
  kernel_rfl
end Go.Proofs.YtjdhkocjkfdebaaGreatDoor.sizePasses
