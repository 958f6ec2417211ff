/- The law DiscsEnclose: whether it goes. -/
import Derived.Test.YtcngjnijbegcmaaGreatDoorFCDiscsEnclose
import Derived.Test.YtcngjnijbegcmaaGreatDoorCards
namespace Go.Proofs.YtcngjnijbegcmaaGreatDoor.discsEnclose
open Go.ChangeShapes Go.WideShapes Go.ChangeAt Go.RowKit
theorem goesF : false = Rows.discsEncloseRow.goesBy Tryz.pinned.checked.prog := by kernel_rfl
end Go.Proofs.YtcngjnijbegcmaaGreatDoor.discsEnclose
