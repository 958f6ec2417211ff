/- Closed facts on the row of the law EncloseHolds. -/
import Derived.Test.YtiohngnhjabaiaaGreatDoorFAEncloseHolds
import Derived.Test.YtiohngnhjabaiaaGreatDoorFBEncloseHolds
namespace Go.Proofs.YtiohngnhjabaiaaGreatDoor.encloseHolds
open Go.ChangeShapes Go.WideShapes Go.ChangeAt Go.RowKit
theorem closedFact : joinedFacts Tryz.pinned.checked.prog 9 Tryz.f9 (OpenSpec.ofChange Rows.encloseHoldsSpec).bare Rows.encloseHoldsRow = true := by
  unfold joinedFacts
  rw [inPlaceFact, namedFact, unfollowedFact, recursesFact]
  kernel_rfl
end Go.Proofs.YtiohngnhjabaiaaGreatDoor.encloseHolds
