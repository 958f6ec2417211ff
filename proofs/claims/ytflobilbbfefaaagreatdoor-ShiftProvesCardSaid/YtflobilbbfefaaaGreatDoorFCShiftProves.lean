/- Closed facts on the row of the law ShiftProves. -/
import Derived.Test.YtflobilbbfefaaaGreatDoorFAShiftProves
import Derived.Test.YtflobilbbfefaaaGreatDoorFBShiftProves
namespace Go.Proofs.YtflobilbbfefaaaGreatDoor.shiftProves
open Go.ChangeShapes Go.WideShapes Go.ChangeAt Go.RowKit
theorem closedFact : joinedFacts Tryz.pinned.checked.prog 5 Tryz.f5 (OpenSpec.ofChange Rows.shiftProvesSpec).bare Rows.shiftProvesRow = true := by
  unfold joinedFacts
  rw [inPlaceFact, namedFact, unfollowedFact, recursesFact]
  kernel_rfl
end Go.Proofs.YtflobilbbfefaaaGreatDoor.shiftProves
