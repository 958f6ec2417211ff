/- Closed facts on the row of the law AssembleAttains. -/
import Derived.Test.YtngkcfeldallkaaGreatDoorRows
import Derived.Test.YtngkcfeldallkaaGreatDoorChecked
import Derived.WalkKit
import Derived.ProofKit
import Derived.OpenShut
import Derived.Deep.DeepHandedRow
namespace Go.Proofs.YtngkcfeldallkaaGreatDoor.assembleAttains
open Go.ChangeShapes Go.WideShapes Go.ChangeAt Go.RowKit
theorem inPlaceFact : Tryz.pinned.checked.prog.inPlace 9 = Rows.assembleAttainsRow.inPlace := by kernel_rfl
theorem namedFact : Tryz.pinned.checked.prog.varsNamed 9 = Rows.assembleAttainsRow.named := by kernel_rfl
end Go.Proofs.YtngkcfeldallkaaGreatDoor.assembleAttains
