/- Closed facts on the row of the law TopPlatesStack. -/
import Derived.Test.YtgphdcbbofjndaaGreatDoorRows
import Derived.Test.YtgphdcbbofjndaaGreatDoorChecked
import Derived.WalkKit
import Derived.ProofKit
import Derived.OpenShut
import Derived.Deep.DeepHandedRow
namespace Go.Proofs.YtgphdcbbofjndaaGreatDoor.topPlatesStack
open Go.ChangeShapes Go.WideShapes Go.ChangeAt Go.RowKit
theorem unfollowedFact : Tryz.pinned.checked.prog.unfollowed 3 = Rows.topPlatesStackRow.unfollowed := by kernel_rfl
theorem recursesFact : Tryz.pinned.checked.prog.recurses 3 = Rows.topPlatesStackRow.recurses := by kernel_rfl
end Go.Proofs.YtgphdcbbofjndaaGreatDoor.topPlatesStack
