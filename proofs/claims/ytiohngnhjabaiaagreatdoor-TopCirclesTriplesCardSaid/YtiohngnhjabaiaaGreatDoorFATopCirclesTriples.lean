/- Closed facts on the row of the law TopCirclesTriples. -/
import Derived.Test.YtiohngnhjabaiaaGreatDoorRows
import Derived.Test.YtiohngnhjabaiaaGreatDoorChecked
import Derived.WalkKit
import Derived.ProofKit
import Derived.OpenShut
import Derived.Deep.DeepHandedRow
namespace Go.Proofs.YtiohngnhjabaiaaGreatDoor.topCirclesTriples
open Go.ChangeShapes Go.WideShapes Go.ChangeAt Go.RowKit
theorem inPlaceFact : Tryz.pinned.checked.prog.inPlace 3 = Rows.topCirclesTriplesRow.inPlace := by kernel_rfl
theorem namedFact : Tryz.pinned.checked.prog.varsNamed 3 = Rows.topCirclesTriplesRow.named := by kernel_rfl
end Go.Proofs.YtiohngnhjabaiaaGreatDoor.topCirclesTriples
