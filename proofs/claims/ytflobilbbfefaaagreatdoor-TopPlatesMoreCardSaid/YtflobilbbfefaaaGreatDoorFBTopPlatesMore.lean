/- Closed facts on the row of the law TopPlatesMore. -/
import Derived.Test.YtflobilbbfefaaaGreatDoorRows
import Derived.Test.YtflobilbbfefaaaGreatDoorChecked
import Derived.WalkKit
import Derived.ProofKit
import Derived.OpenShut
import Derived.Deep.DeepHandedRow
namespace Go.Proofs.YtflobilbbfefaaaGreatDoor.topPlatesMore
open Go.ChangeShapes Go.WideShapes Go.ChangeAt Go.RowKit
theorem unfollowedFact : Tryz.pinned.checked.prog.unfollowed 3 = Rows.topPlatesMoreRow.unfollowed := by kernel_rfl
theorem recursesFact : Tryz.pinned.checked.prog.recurses 3 = Rows.topPlatesMoreRow.recurses := by kernel_rfl
end Go.Proofs.YtflobilbbfefaaaGreatDoor.topPlatesMore
