/- Closed facts on the row of the law DiscsContradict. -/
import Derived.Test.YtehgceikghodkaaGreatDoorFADiscsContradict
import Derived.Test.YtehgceikghodkaaGreatDoorFBDiscsContradict
namespace Go.Proofs.YtehgceikghodkaaGreatDoor.discsContradict
open Go.ChangeShapes Go.WideShapes Go.ChangeAt Go.RowKit
theorem closedFact : joinedFacts Tryz.pinned.checked.prog 3 Tryz.f3 (OpenSpec.ofChange Rows.discsContradictSpec).bare Rows.discsContradictRow = true := by
  unfold joinedFacts
  rw [inPlaceFact, namedFact, unfollowedFact, recursesFact]
  kernel_rfl
end Go.Proofs.YtehgceikghodkaaGreatDoor.discsContradict
