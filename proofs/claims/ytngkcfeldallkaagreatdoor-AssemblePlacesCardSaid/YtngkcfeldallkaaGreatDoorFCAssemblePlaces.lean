/- Closed facts on the row of the law AssemblePlaces. -/
import Derived.Test.YtngkcfeldallkaaGreatDoorFAAssemblePlaces
import Derived.Test.YtngkcfeldallkaaGreatDoorFBAssemblePlaces
namespace Go.Proofs.YtngkcfeldallkaaGreatDoor.assemblePlaces
open Go.ChangeShapes Go.WideShapes Go.ChangeAt Go.RowKit
theorem closedFact : joinedFacts Tryz.pinned.checked.prog 4 Tryz.f4 (OpenSpec.ofChange Rows.assemblePlacesSpec).bare Rows.assemblePlacesRow = true := by
  unfold joinedFacts
  rw [inPlaceFact, namedFact, unfollowedFact, recursesFact]
  kernel_rfl
end Go.Proofs.YtngkcfeldallkaaGreatDoor.assemblePlaces
