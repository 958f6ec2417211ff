/- Closed facts on the row of the law DiscsHelly. -/
import Derived.Test.YtflobilbbfefaaaGreatDoorFADiscsHelly
import Derived.Test.YtflobilbbfefaaaGreatDoorFBDiscsHelly
namespace Go.Proofs.YtflobilbbfefaaaGreatDoor.discsHelly
open Go.ChangeShapes Go.WideShapes Go.ChangeAt Go.RowKit
theorem closedFact : joinedFacts Tryz.pinned.checked.prog 4 Tryz.f4 (OpenSpec.ofChange Rows.discsHellySpec).bare Rows.discsHellyRow = true := by
  unfold joinedFacts
  rw [inPlaceFact, namedFact, unfollowedFact, recursesFact]
  kernel_rfl
end Go.Proofs.YtflobilbbfefaaaGreatDoor.discsHelly
