/- Closed facts on the row of the law EncloseSpheres. -/
import Derived.Test.YtiohngnhjabaiaaGreatDoorFAEncloseSpheres
import Derived.Test.YtiohngnhjabaiaaGreatDoorFBEncloseSpheres
namespace Go.Proofs.YtiohngnhjabaiaaGreatDoor.encloseSpheres
open Go.ChangeShapes Go.WideShapes Go.ChangeAt Go.RowKit
theorem closedFact : joinedFacts Tryz.pinned.checked.prog 8 Tryz.f8 (OpenSpec.ofChange Rows.encloseSpheresSpec).bare Rows.encloseSpheresRow = true := by
  unfold joinedFacts
  rw [inPlaceFact, namedFact, unfollowedFact, recursesFact]
  kernel_rfl
end Go.Proofs.YtiohngnhjabaiaaGreatDoor.encloseSpheres
