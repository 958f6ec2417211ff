/- Closed facts on the row of the law TopPlatesMore. -/
import Derived.Test.YtflobilbbfefaaaGreatDoorRows
import Derived.Test.YtflobilbbfefaaaGreatDoorChecked
import Derived.WalkKit
import Derived.ProofKit
import Derived.OpenShut
import Derived.Deep.DeepHandedRow
namespace Go.Proofs.YtflobilbbfefaaaGreatDoor.topPlatesMore
open Go.ChangeShapes Go.WideShapes Go.ChangeAt Go.RowKit
theorem inPlaceFact : Tryz.pinned.checked.prog.inPlace 3 = Rows.topPlatesMoreRow.inPlace := by kernel_rfl
theorem namedFact : Tryz.pinned.checked.prog.varsNamed 3 = Rows.topPlatesMoreRow.named := by kernel_rfl
end Go.Proofs.YtflobilbbfefaaaGreatDoor.topPlatesMore
