/- Closed facts on the row of the law EncloseVerifies. -/
import Derived.Test.YtiohngnhjabaiaaGreatDoorFAEncloseVerifies
import Derived.Test.YtiohngnhjabaiaaGreatDoorFBEncloseVerifies
namespace Go.Proofs.YtiohngnhjabaiaaGreatDoor.encloseVerifies
open Go.ChangeShapes Go.WideShapes Go.ChangeAt Go.RowKit
theorem closedFact : joinedFacts Tryz.pinned.checked.prog 5 Tryz.f5 (OpenSpec.ofChange Rows.encloseVerifiesSpec).bare Rows.encloseVerifiesRow = true := by
  unfold joinedFacts
  rw [inPlaceFact, namedFact, unfollowedFact, recursesFact]
  kernel_rfl
end Go.Proofs.YtiohngnhjabaiaaGreatDoor.encloseVerifies
