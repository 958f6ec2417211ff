/- Closed facts on the row of the law DiscsHelly. -/
import Derived.Test.YtflobilbbfefaaaGreatDoorRows
import Derived.Test.YtflobilbbfefaaaGreatDoorChecked
import Derived.WalkKit
import Derived.ProofKit
import Derived.OpenShut
import Derived.Deep.DeepHandedRow
namespace Go.Proofs.YtflobilbbfefaaaGreatDoor.discsHelly
open Go.ChangeShapes Go.WideShapes Go.ChangeAt Go.RowKit
theorem unfollowedFact : Tryz.pinned.checked.prog.unfollowed 4 = Rows.discsHellyRow.unfollowed := by kernel_rfl
theorem recursesFact : Tryz.pinned.checked.prog.recurses 4 = Rows.discsHellyRow.recurses := by kernel_rfl
end Go.Proofs.YtflobilbbfefaaaGreatDoor.discsHelly
