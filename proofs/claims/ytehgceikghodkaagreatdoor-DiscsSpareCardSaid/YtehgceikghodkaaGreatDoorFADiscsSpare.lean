/- Closed facts on the row of the law DiscsSpare. -/
import Derived.Test.YtehgceikghodkaaGreatDoorRows
import Derived.Test.YtehgceikghodkaaGreatDoorChecked
import Derived.WalkKit
import Derived.ProofKit
import Derived.OpenShut
import Derived.Deep.DeepHandedRow
namespace Go.Proofs.YtehgceikghodkaaGreatDoor.discsSpare
open Go.ChangeShapes Go.WideShapes Go.ChangeAt Go.RowKit
theorem inPlaceFact : Tryz.pinned.checked.prog.inPlace 4 = Rows.discsSpareRow.inPlace := by kernel_rfl
theorem namedFact : Tryz.pinned.checked.prog.varsNamed 4 = Rows.discsSpareRow.named := by kernel_rfl
end Go.Proofs.YtehgceikghodkaaGreatDoor.discsSpare
