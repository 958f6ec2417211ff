/- Closed facts on the row of the law EncloseGrows. -/
import Derived.Test.YtiohngnhjabaiaaGreatDoorFAEncloseGrows
import Derived.Test.YtiohngnhjabaiaaGreatDoorFBEncloseGrows
namespace Go.Proofs.YtiohngnhjabaiaaGreatDoor.encloseGrows
open Go.ChangeShapes Go.WideShapes Go.ChangeAt Go.RowKit
theorem closedFact : joinedFacts Tryz.pinned.checked.prog 10 Tryz.f10 (OpenSpec.ofChange Rows.encloseGrowsSpec).bare Rows.encloseGrowsRow = true := by
  unfold joinedFacts
  rw [inPlaceFact, namedFact, unfollowedFact, recursesFact]
  kernel_rfl
end Go.Proofs.YtiohngnhjabaiaaGreatDoor.encloseGrows
