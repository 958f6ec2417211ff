/- Closed facts on the row of the law SizeFaces. -/
import Derived.Test.YtjdhkocjkfdebaaGreatDoorRows
import Derived.Test.YtjdhkocjkfdebaaGreatDoorChecked
import Derived.WalkKit
import Derived.ProofKit
import Derived.OpenShut
import Derived.Deep.DeepHandedRow
namespace Go.Proofs.YtjdhkocjkfdebaaGreatDoor.sizeFaces
open Go.ChangeShapes Go.WideShapes Go.ChangeAt Go.RowKit
theorem unfollowedFact : Tryz.pinned.checked.prog.unfollowed 4 = Rows.sizeFacesRow.unfollowed := by kernel_rfl
theorem recursesFact : Tryz.pinned.checked.prog.recurses 4 = Rows.sizeFacesRow.recurses := by kernel_rfl
end Go.Proofs.YtjdhkocjkfdebaaGreatDoor.sizeFaces
