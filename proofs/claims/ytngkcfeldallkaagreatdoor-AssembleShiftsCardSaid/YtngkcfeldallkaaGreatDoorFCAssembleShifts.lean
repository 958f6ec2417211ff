/- Closed facts on the row of the law AssembleShifts. -/
import Derived.Test.YtngkcfeldallkaaGreatDoorFAAssembleShifts
import Derived.Test.YtngkcfeldallkaaGreatDoorFBAssembleShifts
namespace Go.Proofs.YtngkcfeldallkaaGreatDoor.assembleShifts
open Go.ChangeShapes Go.WideShapes Go.ChangeAt Go.RowKit
theorem closedFact : joinedFacts Tryz.pinned.checked.prog 5 Tryz.f5 (OpenSpec.ofChange Rows.assembleShiftsSpec).bare Rows.assembleShiftsRow = true := by
  unfold joinedFacts
  rw [inPlaceFact, namedFact, unfollowedFact, recursesFact]
  kernel_rfl
end Go.Proofs.YtngkcfeldallkaaGreatDoor.assembleShifts
