/- Closed facts on the row of the law DiscsRelate. -/
import Derived.Test.YtlocjddojobamaaGreatDoorRows
import Derived.Test.YtlocjddojobamaaGreatDoorChecked
import Derived.WalkKit
import Derived.ProofKit
import Derived.OpenShut
import Derived.Deep.DeepHandedRow
namespace Go.Proofs.YtlocjddojobamaaGreatDoor.discsRelate
open Go.ChangeShapes Go.WideShapes Go.ChangeAt Go.RowKit
theorem inPlaceFact : Tryz.pinned.checked.prog.inPlace 3 = Rows.discsRelateRow.inPlace := by kernel_rfl
theorem namedFact : Tryz.pinned.checked.prog.varsNamed 3 = Rows.discsRelateRow.named := by kernel_rfl
end Go.Proofs.YtlocjddojobamaaGreatDoor.discsRelate
