/- Closed facts on the row of the law SizeKeeps. -/
import Derived.Test.YtjdhkocjkfdebaaGreatDoorRows
import Derived.Test.YtjdhkocjkfdebaaGreatDoorChecked
import Derived.WalkKit
import Derived.ProofKit
import Derived.OpenShut
import Derived.Deep.DeepHandedRow
namespace Go.Proofs.YtjdhkocjkfdebaaGreatDoor.sizeKeeps
open Go.ChangeShapes Go.WideShapes Go.ChangeAt Go.RowKit
theorem inPlaceFact : Tryz.pinned.checked.prog.inPlace 6 = Rows.sizeKeepsRow.inPlace := by kernel_rfl
theorem namedFact : Tryz.pinned.checked.prog.varsNamed 6 = Rows.sizeKeepsRow.named := by kernel_rfl
end Go.Proofs.YtjdhkocjkfdebaaGreatDoor.sizeKeeps
