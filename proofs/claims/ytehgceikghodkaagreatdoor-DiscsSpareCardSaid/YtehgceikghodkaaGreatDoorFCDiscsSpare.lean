/- Closed facts on the row of the law DiscsSpare. -/
import Derived.Test.YtehgceikghodkaaGreatDoorFADiscsSpare
import Derived.Test.YtehgceikghodkaaGreatDoorFBDiscsSpare
namespace Go.Proofs.YtehgceikghodkaaGreatDoor.discsSpare
open Go.ChangeShapes Go.WideShapes Go.ChangeAt Go.RowKit
theorem closedFact : joinedFacts Tryz.pinned.checked.prog 4 Tryz.f4 (OpenSpec.ofChange Rows.discsSpareSpec).bare Rows.discsSpareRow = true := by
  unfold joinedFacts
  rw [inPlaceFact, namedFact, unfollowedFact, recursesFact]
  kernel_rfl
end Go.Proofs.YtehgceikghodkaaGreatDoor.discsSpare
