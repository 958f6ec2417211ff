/- Closed facts on the row of the law TopCirclesTriples. -/
import Derived.Test.YtiohngnhjabaiaaGreatDoorFATopCirclesTriples
import Derived.Test.YtiohngnhjabaiaaGreatDoorFBTopCirclesTriples
namespace Go.Proofs.YtiohngnhjabaiaaGreatDoor.topCirclesTriples
open Go.ChangeShapes Go.WideShapes Go.ChangeAt Go.RowKit
theorem closedFact : joinedFacts Tryz.pinned.checked.prog 3 Tryz.f3 (OpenSpec.ofChange Rows.topCirclesTriplesSpec).bare Rows.topCirclesTriplesRow = true := by
  unfold joinedFacts
  rw [inPlaceFact, namedFact, unfollowedFact, recursesFact]
  kernel_rfl
end Go.Proofs.YtiohngnhjabaiaaGreatDoor.topCirclesTriples
