/- Closed facts on the row of the law SizeMates. -/
import Derived.Test.YtjdhkocjkfdebaaGreatDoorFASizeMates
import Derived.Test.YtjdhkocjkfdebaaGreatDoorFBSizeMates
namespace Go.Proofs.YtjdhkocjkfdebaaGreatDoor.sizeMates
open Go.ChangeShapes Go.WideShapes Go.ChangeAt Go.RowKit
theorem closedFact : joinedFacts Tryz.pinned.checked.prog 9 Tryz.f9 (OpenSpec.ofChange Rows.sizeMatesSpec).bare Rows.sizeMatesRow = true := by
  unfold joinedFacts
  rw [inPlaceFact, namedFact, unfollowedFact, recursesFact]
  kernel_rfl
end Go.Proofs.YtjdhkocjkfdebaaGreatDoor.sizeMates
