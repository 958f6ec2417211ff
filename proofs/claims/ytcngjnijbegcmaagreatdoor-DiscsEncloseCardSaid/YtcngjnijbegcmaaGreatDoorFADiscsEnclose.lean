/- Closed facts on the row of the law DiscsEnclose. -/
import Derived.Test.YtcngjnijbegcmaaGreatDoorRows
import Derived.Test.YtcngjnijbegcmaaGreatDoorChecked
import Derived.WalkKit
import Derived.ProofKit
import Derived.OpenShut
import Derived.Deep.DeepHandedRow
namespace Go.Proofs.YtcngjnijbegcmaaGreatDoor.discsEnclose
open Go.ChangeShapes Go.WideShapes Go.ChangeAt Go.RowKit
theorem inPlaceFact : Tryz.pinned.checked.prog.inPlace 3 = Rows.discsEncloseRow.inPlace := by kernel_rfl
theorem namedFact : Tryz.pinned.checked.prog.varsNamed 3 = Rows.discsEncloseRow.named := by kernel_rfl
end Go.Proofs.YtcngjnijbegcmaaGreatDoor.discsEnclose
