/- Closed facts on the row of the law AssembleAccepted. -/
import Derived.Test.YtngkcfeldallkaaGreatDoorRows
import Derived.Test.YtngkcfeldallkaaGreatDoorChecked
import Derived.WalkKit
import Derived.ProofKit
import Derived.OpenShut
import Derived.Deep.DeepHandedRow
namespace Go.Proofs.YtngkcfeldallkaaGreatDoor.assembleAccepted
open Go.ChangeShapes Go.WideShapes Go.ChangeAt Go.RowKit
theorem unfollowedFact : Tryz.pinned.checked.prog.unfollowed 10 = Rows.assembleAcceptedRow.unfollowed := by kernel_rfl
theorem recursesFact : Tryz.pinned.checked.prog.recurses 10 = Rows.assembleAcceptedRow.recurses := by kernel_rfl
end Go.Proofs.YtngkcfeldallkaaGreatDoor.assembleAccepted
