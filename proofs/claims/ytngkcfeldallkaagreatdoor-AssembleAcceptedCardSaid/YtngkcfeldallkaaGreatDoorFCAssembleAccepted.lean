/- Closed facts on the row of the law AssembleAccepted. -/
import Derived.Test.YtngkcfeldallkaaGreatDoorFAAssembleAccepted
import Derived.Test.YtngkcfeldallkaaGreatDoorFBAssembleAccepted
namespace Go.Proofs.YtngkcfeldallkaaGreatDoor.assembleAccepted
open Go.ChangeShapes Go.WideShapes Go.ChangeAt Go.RowKit
theorem closedFact : joinedFacts Tryz.pinned.checked.prog 10 Tryz.f10 (OpenSpec.ofChange Rows.assembleAcceptedSpec).bare Rows.assembleAcceptedRow = true := by
  unfold joinedFacts
  rw [inPlaceFact, namedFact, unfollowedFact, recursesFact]
  kernel_rfl
end Go.Proofs.YtngkcfeldallkaaGreatDoor.assembleAccepted
