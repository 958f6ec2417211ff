/- Closed facts on the row of the law AssembleMoves. -/
import Derived.Test.YtngkcfeldallkaaGreatDoorFAAssembleMoves
import Derived.Test.YtngkcfeldallkaaGreatDoorFBAssembleMoves
namespace Go.Proofs.YtngkcfeldallkaaGreatDoor.assembleMoves
open Go.ChangeShapes Go.WideShapes Go.ChangeAt Go.RowKit
theorem closedFact : joinedFacts Tryz.pinned.checked.prog 6 Tryz.f6 (OpenSpec.ofChange Rows.assembleMovesSpec).bare Rows.assembleMovesRow = true := by
  unfold joinedFacts
  rw [inPlaceFact, namedFact, unfollowedFact, recursesFact]
  kernel_rfl
end Go.Proofs.YtngkcfeldallkaaGreatDoor.assembleMoves
