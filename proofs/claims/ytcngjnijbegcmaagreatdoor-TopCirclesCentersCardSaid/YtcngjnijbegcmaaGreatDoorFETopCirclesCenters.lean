/- The law TopCirclesCenters: whether it goes. -/
import Derived.Test.YtcngjnijbegcmaaGreatDoorFCTopCirclesCenters
import Derived.Test.YtcngjnijbegcmaaGreatDoorCards
namespace Go.Proofs.YtcngjnijbegcmaaGreatDoor.topCirclesCenters
open Go.ChangeShapes Go.WideShapes Go.ChangeAt Go.RowKit
theorem goesF : false = Rows.topCirclesCentersRow.goesBy Tryz.pinned.checked.prog := by kernel_rfl
end Go.Proofs.YtcngjnijbegcmaaGreatDoor.topCirclesCenters
