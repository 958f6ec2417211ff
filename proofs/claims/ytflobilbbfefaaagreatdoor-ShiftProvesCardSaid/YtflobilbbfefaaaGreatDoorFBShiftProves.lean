/- Closed facts on the row of the law ShiftProves. -/
import Derived.Test.YtflobilbbfefaaaGreatDoorRows
import Derived.Test.YtflobilbbfefaaaGreatDoorChecked
import Derived.WalkKit
import Derived.ProofKit
import Derived.OpenShut
import Derived.Deep.DeepHandedRow
namespace Go.Proofs.YtflobilbbfefaaaGreatDoor.shiftProves
open Go.ChangeShapes Go.WideShapes Go.ChangeAt Go.RowKit
theorem unfollowedFact : Tryz.pinned.checked.prog.unfollowed 5 = Rows.shiftProvesRow.unfollowed := by kernel_rfl
theorem recursesFact : Tryz.pinned.checked.prog.recurses 5 = Rows.shiftProvesRow.recurses := by kernel_rfl
end Go.Proofs.YtflobilbbfefaaaGreatDoor.shiftProves
