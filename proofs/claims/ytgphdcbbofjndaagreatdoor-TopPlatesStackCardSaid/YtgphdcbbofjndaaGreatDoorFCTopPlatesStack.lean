/- Closed facts on the row of the law TopPlatesStack. -/
import Derived.Test.YtgphdcbbofjndaaGreatDoorFATopPlatesStack
import Derived.Test.YtgphdcbbofjndaaGreatDoorFBTopPlatesStack
namespace Go.Proofs.YtgphdcbbofjndaaGreatDoor.topPlatesStack
open Go.ChangeShapes Go.WideShapes Go.ChangeAt Go.RowKit
theorem closedFact : joinedFacts Tryz.pinned.checked.prog 3 Tryz.f3 (OpenSpec.ofChange Rows.topPlatesStackSpec).bare Rows.topPlatesStackRow = true := by
  unfold joinedFacts
  rw [inPlaceFact, namedFact, unfollowedFact, recursesFact]
  kernel_rfl
end Go.Proofs.YtgphdcbbofjndaaGreatDoor.topPlatesStack
