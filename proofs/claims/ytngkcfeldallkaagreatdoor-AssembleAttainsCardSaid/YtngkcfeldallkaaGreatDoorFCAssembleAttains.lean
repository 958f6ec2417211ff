/- Closed facts on the row of the law AssembleAttains. -/
import Derived.Test.YtngkcfeldallkaaGreatDoorFAAssembleAttains
import Derived.Test.YtngkcfeldallkaaGreatDoorFBAssembleAttains
namespace Go.Proofs.YtngkcfeldallkaaGreatDoor.assembleAttains
open Go.ChangeShapes Go.WideShapes Go.ChangeAt Go.RowKit
theorem closedFact : joinedFacts Tryz.pinned.checked.prog 9 Tryz.f9 (OpenSpec.ofChange Rows.assembleAttainsSpec).bare Rows.assembleAttainsRow = true := by
  unfold joinedFacts
  rw [inPlaceFact, namedFact, unfollowedFact, recursesFact]
  kernel_rfl
end Go.Proofs.YtngkcfeldallkaaGreatDoor.assembleAttains
