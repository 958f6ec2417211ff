/- Closed facts on the row of the law DiscsContain. -/
import Derived.Test.YtlocjddojobamaaGreatDoorFADiscsContain
import Derived.Test.YtlocjddojobamaaGreatDoorFBDiscsContain
namespace Go.Proofs.YtlocjddojobamaaGreatDoor.discsContain
open Go.ChangeShapes Go.WideShapes Go.ChangeAt Go.RowKit
theorem closedFact : joinedFacts Tryz.pinned.checked.prog 5 Tryz.f5 (OpenSpec.ofChange Rows.discsContainSpec).bare Rows.discsContainRow = true := by
  unfold joinedFacts
  rw [inPlaceFact, namedFact, unfollowedFact, recursesFact]
  kernel_rfl
end Go.Proofs.YtlocjddojobamaaGreatDoor.discsContain
