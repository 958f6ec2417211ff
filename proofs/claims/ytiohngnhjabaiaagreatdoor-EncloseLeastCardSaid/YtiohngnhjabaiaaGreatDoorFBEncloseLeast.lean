/- Closed facts on the row of the law EncloseLeast. -/
import Derived.Test.YtiohngnhjabaiaaGreatDoorRows
import Derived.Test.YtiohngnhjabaiaaGreatDoorChecked
import Derived.WalkKit
import Derived.ProofKit
import Derived.OpenShut
import Derived.Deep.DeepHandedRow
namespace Go.Proofs.YtiohngnhjabaiaaGreatDoor.encloseLeast
open Go.ChangeShapes Go.WideShapes Go.ChangeAt Go.RowKit
theorem unfollowedFact : Tryz.pinned.checked.prog.unfollowed 6 = Rows.encloseLeastRow.unfollowed := by kernel_rfl
theorem recursesFact : Tryz.pinned.checked.prog.recurses 6 = Rows.encloseLeastRow.recurses := by kernel_rfl
end Go.Proofs.YtiohngnhjabaiaaGreatDoor.encloseLeast
