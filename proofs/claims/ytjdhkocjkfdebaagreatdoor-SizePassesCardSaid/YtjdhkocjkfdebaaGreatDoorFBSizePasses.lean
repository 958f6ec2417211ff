/- Closed facts on the row of the law SizePasses. -/
import Derived.Test.YtjdhkocjkfdebaaGreatDoorRows
import Derived.Test.YtjdhkocjkfdebaaGreatDoorChecked
import Derived.WalkKit
import Derived.ProofKit
import Derived.OpenShut
import Derived.Deep.DeepHandedRow
namespace Go.Proofs.YtjdhkocjkfdebaaGreatDoor.sizePasses
open Go.ChangeShapes Go.WideShapes Go.ChangeAt Go.RowKit
theorem unfollowedFact : Tryz.pinned.checked.prog.unfollowed 10 = Rows.sizePassesRow.unfollowed := by kernel_rfl
theorem recursesFact : Tryz.pinned.checked.prog.recurses 10 = Rows.sizePassesRow.recurses := by kernel_rfl
end Go.Proofs.YtjdhkocjkfdebaaGreatDoor.sizePasses
