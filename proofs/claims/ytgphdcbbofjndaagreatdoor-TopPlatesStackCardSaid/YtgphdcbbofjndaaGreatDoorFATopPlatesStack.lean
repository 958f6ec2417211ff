/- Closed facts on the row of the law TopPlatesStack. -/
import Derived.Test.YtgphdcbbofjndaaGreatDoorRows
import Derived.Test.YtgphdcbbofjndaaGreatDoorChecked
import Derived.WalkKit
import Derived.ProofKit
import Derived.OpenShut
import Derived.Deep.DeepHandedRow
namespace Go.Proofs.YtgphdcbbofjndaaGreatDoor.topPlatesStack
open Go.ChangeShapes Go.WideShapes Go.ChangeAt Go.RowKit
theorem inPlaceFact : Tryz.pinned.checked.prog.inPlace 3 = Rows.topPlatesStackRow.inPlace := by kernel_rfl
theorem namedFact : Tryz.pinned.checked.prog.varsNamed 3 = Rows.topPlatesStackRow.named := by kernel_rfl
end Go.Proofs.YtgphdcbbofjndaaGreatDoor.topPlatesStack
