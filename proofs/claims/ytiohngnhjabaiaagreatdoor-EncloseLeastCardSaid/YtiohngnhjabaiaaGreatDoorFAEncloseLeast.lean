/- Closed facts on the row of the law EncloseLeast. -/
import Derived.Test.YtiohngnhjabaiaaGreatDoorRows
import Derived.Test.YtiohngnhjabaiaaGreatDoorChecked
import Derived.WalkKit
import Derived.ProofKit
import Derived.OpenShut
import Derived.Deep.DeepHandedRow
namespace Go.Proofs.YtiohngnhjabaiaaGreatDoor.encloseLeast
open Go.ChangeShapes Go.WideShapes Go.ChangeAt Go.RowKit
theorem inPlaceFact : Tryz.pinned.checked.prog.inPlace 6 = Rows.encloseLeastRow.inPlace := by kernel_rfl
theorem namedFact : Tryz.pinned.checked.prog.varsNamed 6 = Rows.encloseLeastRow.named := by kernel_rfl
end Go.Proofs.YtiohngnhjabaiaaGreatDoor.encloseLeast
