/- Closed facts on the row of the law TopCirclesDiscs. -/
import Derived.Test.YtcngjnijbegcmaaGreatDoorRows
import Derived.Test.YtcngjnijbegcmaaGreatDoorChecked
import Derived.WalkKit
import Derived.ProofKit
import Derived.OpenShut
import Derived.Deep.DeepHandedRow
namespace Go.Proofs.YtcngjnijbegcmaaGreatDoor.topCirclesDiscs
open Go.ChangeShapes Go.WideShapes Go.ChangeAt Go.RowKit
theorem inPlaceFact : Tryz.pinned.checked.prog.inPlace 5 = Rows.topCirclesDiscsRow.inPlace := by kernel_rfl
theorem namedFact : Tryz.pinned.checked.prog.varsNamed 5 = Rows.topCirclesDiscsRow.named := by kernel_rfl
end Go.Proofs.YtcngjnijbegcmaaGreatDoor.topCirclesDiscs
