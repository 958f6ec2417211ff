/- Closed facts on the row of the law EncloseCircles. -/
import Derived.Test.YtiohngnhjabaiaaGreatDoorFAEncloseCircles
import Derived.Test.YtiohngnhjabaiaaGreatDoorFBEncloseCircles
namespace Go.Proofs.YtiohngnhjabaiaaGreatDoor.encloseCircles
open Go.ChangeShapes Go.WideShapes Go.ChangeAt Go.RowKit
theorem closedFact : joinedFacts Tryz.pinned.checked.prog 4 Tryz.f4 (OpenSpec.ofChange Rows.encloseCirclesSpec).bare Rows.encloseCirclesRow = true := by
  unfold joinedFacts
  rw [inPlaceFact, namedFact, unfollowedFact, recursesFact]
  kernel_rfl
end Go.Proofs.YtiohngnhjabaiaaGreatDoor.encloseCircles
