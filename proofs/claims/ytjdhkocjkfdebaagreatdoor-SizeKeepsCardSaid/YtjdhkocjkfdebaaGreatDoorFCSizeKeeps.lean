/- Closed facts on the row of the law SizeKeeps. -/
import Derived.Test.YtjdhkocjkfdebaaGreatDoorFASizeKeeps
import Derived.Test.YtjdhkocjkfdebaaGreatDoorFBSizeKeeps
namespace Go.Proofs.YtjdhkocjkfdebaaGreatDoor.sizeKeeps
open Go.ChangeShapes Go.WideShapes Go.ChangeAt Go.RowKit
theorem closedFact : joinedFacts Tryz.pinned.checked.prog 6 Tryz.f6 (OpenSpec.ofChange Rows.sizeKeepsSpec).bare Rows.sizeKeepsRow = true := by
  unfold joinedFacts
  rw [inPlaceFact, namedFact, unfollowedFact, recursesFact]
  kernel_rfl
end Go.Proofs.YtjdhkocjkfdebaaGreatDoor.sizeKeeps
