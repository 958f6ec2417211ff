/- Closed facts on the row of the law AssembleProves. -/
import Derived.Test.YtngkcfeldallkaaGreatDoorRows
import Derived.Test.YtngkcfeldallkaaGreatDoorChecked
import Derived.WalkKit
import Derived.ProofKit
import Derived.OpenShut
import Derived.Deep.DeepHandedRow
namespace Go.Proofs.YtngkcfeldallkaaGreatDoor.assembleProves
open Go.ChangeShapes Go.WideShapes Go.ChangeAt Go.RowKit
theorem unfollowedFact : Tryz.pinned.checked.prog.unfollowed 7 = Rows.assembleProvesRow.unfollowed := by kernel_rfl
theorem recursesFact : Tryz.pinned.checked.prog.recurses 7 = Rows.assembleProvesRow.recurses := by kernel_rfl
end Go.Proofs.YtngkcfeldallkaaGreatDoor.assembleProves
