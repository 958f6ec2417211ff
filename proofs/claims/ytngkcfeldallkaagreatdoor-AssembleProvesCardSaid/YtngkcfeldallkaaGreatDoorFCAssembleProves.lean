/- Closed facts on the row of the law AssembleProves. -/
import Derived.Test.YtngkcfeldallkaaGreatDoorFAAssembleProves
import Derived.Test.YtngkcfeldallkaaGreatDoorFBAssembleProves
namespace Go.Proofs.YtngkcfeldallkaaGreatDoor.assembleProves
open Go.ChangeShapes Go.WideShapes Go.ChangeAt Go.RowKit
theorem closedFact : joinedFacts Tryz.pinned.checked.prog 7 Tryz.f7 (OpenSpec.ofChange Rows.assembleProvesSpec).bare Rows.assembleProvesRow = true := by
  unfold joinedFacts
  rw [inPlaceFact, namedFact, unfollowedFact, recursesFact]
  kernel_rfl
end Go.Proofs.YtngkcfeldallkaaGreatDoor.assembleProves
