/- The law SizePins: whether it goes. -/
import Derived.Test.YtjdhkocjkfdebaaGreatDoorFCSizePins
import Derived.Test.YtjdhkocjkfdebaaGreatDoorCards
namespace Go.Proofs.YtjdhkocjkfdebaaGreatDoor.sizePins
open Go.ChangeShapes Go.WideShapes Go.ChangeAt Go.RowKit
theorem goesF : false = Rows.sizePinsRow.goesBy Tryz.pinned.checked.prog := by kernel_rfl
end Go.Proofs.YtjdhkocjkfdebaaGreatDoor.sizePins
