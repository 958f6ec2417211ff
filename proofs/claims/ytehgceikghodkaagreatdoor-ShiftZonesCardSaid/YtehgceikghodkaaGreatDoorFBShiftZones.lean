/- Closed facts on the row of the law ShiftZones. -/
import Derived.Test.YtehgceikghodkaaGreatDoorRows
import Derived.Test.YtehgceikghodkaaGreatDoorChecked
import Derived.WalkKit
import Derived.ProofKit
import Derived.OpenShut
import Derived.Deep.DeepHandedRow
namespace Go.Proofs.YtehgceikghodkaaGreatDoor.shiftZones
open Go.ChangeShapes Go.WideShapes Go.ChangeAt Go.RowKit
theorem unfollowedFact : Tryz.pinned.checked.prog.unfollowed 6 = Rows.shiftZonesRow.unfollowed := by kernel_rfl
theorem recursesFact : Tryz.pinned.checked.prog.recurses 6 = Rows.shiftZonesRow.recurses := by kernel_rfl
end Go.Proofs.YtehgceikghodkaaGreatDoor.shiftZones
