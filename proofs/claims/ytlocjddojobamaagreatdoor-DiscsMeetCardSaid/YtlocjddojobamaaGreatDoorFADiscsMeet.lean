/- Closed facts on the row of the law DiscsMeet. -/
import Derived.Test.YtlocjddojobamaaGreatDoorRows
import Derived.Test.YtlocjddojobamaaGreatDoorChecked
import Derived.WalkKit
import Derived.ProofKit
import Derived.OpenShut
import Derived.Deep.DeepHandedRow
namespace Go.Proofs.YtlocjddojobamaaGreatDoor.discsMeet
open Go.ChangeShapes Go.WideShapes Go.ChangeAt Go.RowKit
theorem inPlaceFact : Tryz.pinned.checked.prog.inPlace 4 = Rows.discsMeetRow.inPlace := by kernel_rfl
theorem namedFact : Tryz.pinned.checked.prog.varsNamed 4 = Rows.discsMeetRow.named := by kernel_rfl
end Go.Proofs.YtlocjddojobamaaGreatDoor.discsMeet
