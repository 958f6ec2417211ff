/- Closed facts on the row of the law ShiftProves. -/
import Derived.Test.YtflobilbbfefaaaGreatDoorRows
import Derived.Test.YtflobilbbfefaaaGreatDoorChecked
import Derived.WalkKit
import Derived.ProofKit
import Derived.OpenShut
import Derived.Deep.DeepHandedRow
namespace Go.Proofs.YtflobilbbfefaaaGreatDoor.shiftProves
open Go.ChangeShapes Go.WideShapes Go.ChangeAt Go.RowKit
theorem inPlaceFact : Tryz.pinned.checked.prog.inPlace 5 = Rows.shiftProvesRow.inPlace := by kernel_rfl
theorem namedFact : Tryz.pinned.checked.prog.varsNamed 5 = Rows.shiftProvesRow.named := by kernel_rfl
end Go.Proofs.YtflobilbbfefaaaGreatDoor.shiftProves
