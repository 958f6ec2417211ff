/- The law TopCirclesDiscs: whether it goes. -/
import Derived.Test.YtcngjnijbegcmaaGreatDoorFCTopCirclesDiscs
import Derived.Test.YtcngjnijbegcmaaGreatDoorCards
namespace Go.Proofs.YtcngjnijbegcmaaGreatDoor.topCirclesDiscs
open Go.ChangeShapes Go.WideShapes Go.ChangeAt Go.RowKit
theorem goesF : false = Rows.topCirclesDiscsRow.goesBy Tryz.pinned.checked.prog := by kernel_rfl
end Go.Proofs.YtcngjnijbegcmaaGreatDoor.topCirclesDiscs
