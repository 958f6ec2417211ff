/- Closed facts on the row of the law DiscsVerify. -/
import Derived.Test.YtlocjddojobamaaGreatDoorFADiscsVerify
import Derived.Test.YtlocjddojobamaaGreatDoorFBDiscsVerify
namespace Go.Proofs.YtlocjddojobamaaGreatDoor.discsVerify
open Go.ChangeShapes Go.WideShapes Go.ChangeAt Go.RowKit
theorem closedFact : joinedFacts Tryz.pinned.checked.prog 6 Tryz.f6 (OpenSpec.ofChange Rows.discsVerifySpec).bare Rows.discsVerifyRow = true := by
  unfold joinedFacts
  rw [inPlaceFact, namedFact, unfollowedFact, recursesFact]
  kernel_rfl
end Go.Proofs.YtlocjddojobamaaGreatDoor.discsVerify
