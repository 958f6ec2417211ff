/- Closed facts on the row of the law DiscsVerify. -/
import Derived.Test.YtlocjddojobamaaGreatDoorRows
import Derived.Test.YtlocjddojobamaaGreatDoorChecked
import Derived.WalkKit
import Derived.ProofKit
import Derived.OpenShut
import Derived.Deep.DeepHandedRow
namespace Go.Proofs.YtlocjddojobamaaGreatDoor.discsVerify
open Go.ChangeShapes Go.WideShapes Go.ChangeAt Go.RowKit
theorem inPlaceFact : Tryz.pinned.checked.prog.inPlace 6 = Rows.discsVerifyRow.inPlace := by kernel_rfl
theorem namedFact : Tryz.pinned.checked.prog.varsNamed 6 = Rows.discsVerifyRow.named := by kernel_rfl
end Go.Proofs.YtlocjddojobamaaGreatDoor.discsVerify
