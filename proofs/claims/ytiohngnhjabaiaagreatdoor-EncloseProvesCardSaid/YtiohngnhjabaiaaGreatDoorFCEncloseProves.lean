/- Closed facts on the row of the law EncloseProves. -/
import Derived.Test.YtiohngnhjabaiaaGreatDoorFAEncloseProves
import Derived.Test.YtiohngnhjabaiaaGreatDoorFBEncloseProves
namespace Go.Proofs.YtiohngnhjabaiaaGreatDoor.encloseProves
open Go.ChangeShapes Go.WideShapes Go.ChangeAt Go.RowKit
theorem closedFact : joinedFacts Tryz.pinned.checked.prog 7 Tryz.f7 (OpenSpec.ofChange Rows.encloseProvesSpec).bare Rows.encloseProvesRow = true := by
  unfold joinedFacts
  rw [inPlaceFact, namedFact, unfollowedFact, recursesFact]
  kernel_rfl
end Go.Proofs.YtiohngnhjabaiaaGreatDoor.encloseProves
