/- Closed facts on the row of the law EncloseLeast. -/
import Derived.Test.YtiohngnhjabaiaaGreatDoorFAEncloseLeast
import Derived.Test.YtiohngnhjabaiaaGreatDoorFBEncloseLeast
namespace Go.Proofs.YtiohngnhjabaiaaGreatDoor.encloseLeast
open Go.ChangeShapes Go.WideShapes Go.ChangeAt Go.RowKit
theorem closedFact : joinedFacts Tryz.pinned.checked.prog 6 Tryz.f6 (OpenSpec.ofChange Rows.encloseLeastSpec).bare Rows.encloseLeastRow = true := by
  unfold joinedFacts
  rw [inPlaceFact, namedFact, unfollowedFact, recursesFact]
  kernel_rfl
end Go.Proofs.YtiohngnhjabaiaaGreatDoor.encloseLeast
