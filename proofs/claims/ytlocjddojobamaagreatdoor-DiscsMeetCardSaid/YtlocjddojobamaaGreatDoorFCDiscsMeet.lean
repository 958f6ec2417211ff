/- Closed facts on the row of the law DiscsMeet. -/
import Derived.Test.YtlocjddojobamaaGreatDoorFADiscsMeet
import Derived.Test.YtlocjddojobamaaGreatDoorFBDiscsMeet
namespace Go.Proofs.YtlocjddojobamaaGreatDoor.discsMeet
open Go.ChangeShapes Go.WideShapes Go.ChangeAt Go.RowKit
theorem closedFact : joinedFacts Tryz.pinned.checked.prog 4 Tryz.f4 (OpenSpec.ofChange Rows.discsMeetSpec).bare Rows.discsMeetRow = true := by
  unfold joinedFacts
  rw [inPlaceFact, namedFact, unfollowedFact, recursesFact]
  kernel_rfl
end Go.Proofs.YtlocjddojobamaaGreatDoor.discsMeet
