/- Closed facts on the row of the law SizeMates. -/
import Derived.Test.YtjdhkocjkfdebaaGreatDoorRows
import Derived.Test.YtjdhkocjkfdebaaGreatDoorChecked
import Derived.WalkKit
import Derived.ProofKit
import Derived.OpenShut
import Derived.Deep.DeepHandedRow
namespace Go.Proofs.YtjdhkocjkfdebaaGreatDoor.sizeMates
open Go.ChangeShapes Go.WideShapes Go.ChangeAt Go.RowKit
theorem inPlaceFact : Tryz.pinned.checked.prog.inPlace 9 = Rows.sizeMatesRow.inPlace := by kernel_rfl
theorem namedFact : Tryz.pinned.checked.prog.varsNamed 9 = Rows.sizeMatesRow.named := by kernel_rfl
end Go.Proofs.YtjdhkocjkfdebaaGreatDoor.sizeMates
