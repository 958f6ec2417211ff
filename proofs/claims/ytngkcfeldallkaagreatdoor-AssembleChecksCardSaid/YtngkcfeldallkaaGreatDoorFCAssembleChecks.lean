/- Closed facts on the row of the law AssembleChecks. -/
import Derived.Test.YtngkcfeldallkaaGreatDoorFAAssembleChecks
import Derived.Test.YtngkcfeldallkaaGreatDoorFBAssembleChecks
namespace Go.Proofs.YtngkcfeldallkaaGreatDoor.assembleChecks
open Go.ChangeShapes Go.WideShapes Go.ChangeAt Go.RowKit
theorem closedFact : joinedFacts Tryz.pinned.checked.prog 3 Tryz.f3 (OpenSpec.ofChange Rows.assembleChecksSpec).bare Rows.assembleChecksRow = true := by
  unfold joinedFacts
  rw [inPlaceFact, namedFact, unfollowedFact, recursesFact]
  kernel_rfl
end Go.Proofs.YtngkcfeldallkaaGreatDoor.assembleChecks
