/- Closed facts on the row of the law AssembleHeights. -/
import Derived.Test.YtngkcfeldallkaaGreatDoorFAAssembleHeights
import Derived.Test.YtngkcfeldallkaaGreatDoorFBAssembleHeights
namespace Go.Proofs.YtngkcfeldallkaaGreatDoor.assembleHeights
open Go.ChangeShapes Go.WideShapes Go.ChangeAt Go.RowKit
theorem closedFact : joinedFacts Tryz.pinned.checked.prog 8 Tryz.f8 (OpenSpec.ofChange Rows.assembleHeightsSpec).bare Rows.assembleHeightsRow = true := by
  unfold joinedFacts
  rw [inPlaceFact, namedFact, unfollowedFact, recursesFact]
  kernel_rfl
end Go.Proofs.YtngkcfeldallkaaGreatDoor.assembleHeights
