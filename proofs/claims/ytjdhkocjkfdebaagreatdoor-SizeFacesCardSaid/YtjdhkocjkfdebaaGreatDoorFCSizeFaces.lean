/- Closed facts on the row of the law SizeFaces. -/
import Derived.Test.YtjdhkocjkfdebaaGreatDoorFASizeFaces
import Derived.Test.YtjdhkocjkfdebaaGreatDoorFBSizeFaces
namespace Go.Proofs.YtjdhkocjkfdebaaGreatDoor.sizeFaces
open Go.ChangeShapes Go.WideShapes Go.ChangeAt Go.RowKit
theorem closedFact : joinedFacts Tryz.pinned.checked.prog 4 Tryz.f4 (OpenSpec.ofChange Rows.sizeFacesSpec).bare Rows.sizeFacesRow = true := by
  unfold joinedFacts
  rw [inPlaceFact, namedFact, unfollowedFact, recursesFact]
  kernel_rfl
end Go.Proofs.YtjdhkocjkfdebaaGreatDoor.sizeFaces
