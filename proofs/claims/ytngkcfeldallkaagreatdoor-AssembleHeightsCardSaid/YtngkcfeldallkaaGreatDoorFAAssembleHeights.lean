/- Closed facts on the row of the law AssembleHeights. -/
import Derived.Test.YtngkcfeldallkaaGreatDoorRows
import Derived.Test.YtngkcfeldallkaaGreatDoorChecked
import Derived.WalkKit
import Derived.ProofKit
import Derived.OpenShut
import Derived.Deep.DeepHandedRow
namespace Go.Proofs.YtngkcfeldallkaaGreatDoor.assembleHeights
open Go.ChangeShapes Go.WideShapes Go.ChangeAt Go.RowKit
theorem inPlaceFact : Tryz.pinned.checked.prog.inPlace 8 = Rows.assembleHeightsRow.inPlace := by kernel_rfl
theorem namedFact : Tryz.pinned.checked.prog.varsNamed 8 = Rows.assembleHeightsRow.named := by kernel_rfl
end Go.Proofs.YtngkcfeldallkaaGreatDoor.assembleHeights
