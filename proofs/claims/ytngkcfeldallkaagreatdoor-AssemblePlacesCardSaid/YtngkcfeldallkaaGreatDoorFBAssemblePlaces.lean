/- Closed facts on the row of the law AssemblePlaces. -/
import Derived.Test.YtngkcfeldallkaaGreatDoorRows
import Derived.Test.YtngkcfeldallkaaGreatDoorChecked
import Derived.WalkKit
import Derived.ProofKit
import Derived.OpenShut
import Derived.Deep.DeepHandedRow
namespace Go.Proofs.YtngkcfeldallkaaGreatDoor.assemblePlaces
open Go.ChangeShapes Go.WideShapes Go.ChangeAt Go.RowKit
theorem unfollowedFact : Tryz.pinned.checked.prog.unfollowed 4 = Rows.assemblePlacesRow.unfollowed := by kernel_rfl
theorem recursesFact : Tryz.pinned.checked.prog.recurses 4 = Rows.assemblePlacesRow.recurses := by kernel_rfl
end Go.Proofs.YtngkcfeldallkaaGreatDoor.assemblePlaces
