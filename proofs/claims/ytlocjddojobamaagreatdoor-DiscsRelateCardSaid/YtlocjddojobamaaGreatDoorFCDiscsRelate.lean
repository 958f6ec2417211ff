/- Closed facts on the row of the law DiscsRelate. -/
import Derived.Test.YtlocjddojobamaaGreatDoorFADiscsRelate
import Derived.Test.YtlocjddojobamaaGreatDoorFBDiscsRelate
namespace Go.Proofs.YtlocjddojobamaaGreatDoor.discsRelate
open Go.ChangeShapes Go.WideShapes Go.ChangeAt Go.RowKit
theorem closedFact : joinedFacts Tryz.pinned.checked.prog 3 Tryz.f3 (OpenSpec.ofChange Rows.discsRelateSpec).bare Rows.discsRelateRow = true := by
  unfold joinedFacts
  rw [inPlaceFact, namedFact, unfollowedFact, recursesFact]
  kernel_rfl
end Go.Proofs.YtlocjddojobamaaGreatDoor.discsRelate
