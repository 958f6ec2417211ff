/- Closed facts on the row of the law SizeLocals. -/
import Derived.Test.YtjdhkocjkfdebaaGreatDoorFASizeLocals
import Derived.Test.YtjdhkocjkfdebaaGreatDoorFBSizeLocals
namespace Go.Proofs.YtjdhkocjkfdebaaGreatDoor.sizeLocals
open Go.ChangeShapes Go.WideShapes Go.ChangeAt Go.RowKit
theorem closedFact : joinedFacts Tryz.pinned.checked.prog 7 Tryz.f7 (OpenSpec.ofChange Rows.sizeLocalsSpec).bare Rows.sizeLocalsRow = true := by
  unfold joinedFacts
  rw [inPlaceFact, namedFact, unfollowedFact, recursesFact]
  kernel_rfl
end Go.Proofs.YtjdhkocjkfdebaaGreatDoor.sizeLocals
