/- Closed facts on the row of the law TopPlatesMore. -/
import Derived.Test.YtflobilbbfefaaaGreatDoorFATopPlatesMore
import Derived.Test.YtflobilbbfefaaaGreatDoorFBTopPlatesMore
namespace Go.Proofs.YtflobilbbfefaaaGreatDoor.topPlatesMore
open Go.ChangeShapes Go.WideShapes Go.ChangeAt Go.RowKit
theorem closedFact : joinedFacts Tryz.pinned.checked.prog 3 Tryz.f3 (OpenSpec.ofChange Rows.topPlatesMoreSpec).bare Rows.topPlatesMoreRow = true := by
  unfold joinedFacts
  rw [inPlaceFact, namedFact, unfollowedFact, recursesFact]
  kernel_rfl
end Go.Proofs.YtflobilbbfefaaaGreatDoor.topPlatesMore
