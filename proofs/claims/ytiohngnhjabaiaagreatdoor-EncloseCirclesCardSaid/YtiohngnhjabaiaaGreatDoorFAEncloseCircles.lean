/- Closed facts on the row of the law EncloseCircles. -/
import Derived.Test.YtiohngnhjabaiaaGreatDoorRows
import Derived.Test.YtiohngnhjabaiaaGreatDoorChecked
import Derived.WalkKit
import Derived.ProofKit
import Derived.OpenShut
import Derived.Deep.DeepHandedRow
namespace Go.Proofs.YtiohngnhjabaiaaGreatDoor.encloseCircles
open Go.ChangeShapes Go.WideShapes Go.ChangeAt Go.RowKit
theorem inPlaceFact : Tryz.pinned.checked.prog.inPlace 4 = Rows.encloseCirclesRow.inPlace := by kernel_rfl
theorem namedFact : Tryz.pinned.checked.prog.varsNamed 4 = Rows.encloseCirclesRow.named := by kernel_rfl
end Go.Proofs.YtiohngnhjabaiaaGreatDoor.encloseCircles
