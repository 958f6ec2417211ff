/- Closed facts on the row of the law SizeFaces. -/
import Derived.Test.YtjdhkocjkfdebaaGreatDoorRows
import Derived.Test.YtjdhkocjkfdebaaGreatDoorChecked
import Derived.WalkKit
import Derived.ProofKit
import Derived.OpenShut
import Derived.Deep.DeepHandedRow
namespace Go.Proofs.YtjdhkocjkfdebaaGreatDoor.sizeFaces
open Go.ChangeShapes Go.WideShapes Go.ChangeAt Go.RowKit
theorem inPlaceFact : Tryz.pinned.checked.prog.inPlace 4 = Rows.sizeFacesRow.inPlace := by kernel_rfl
theorem namedFact : Tryz.pinned.checked.prog.varsNamed 4 = Rows.sizeFacesRow.named := by kernel_rfl
end Go.Proofs.YtjdhkocjkfdebaaGreatDoor.sizeFaces
