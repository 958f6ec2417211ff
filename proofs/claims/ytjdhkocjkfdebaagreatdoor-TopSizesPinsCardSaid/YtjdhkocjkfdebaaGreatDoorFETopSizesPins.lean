/- The law TopSizesPins: whether it goes. -/
import Derived.Test.YtjdhkocjkfdebaaGreatDoorFCTopSizesPins
import Derived.Test.YtjdhkocjkfdebaaGreatDoorCards
namespace Go.Proofs.YtjdhkocjkfdebaaGreatDoor.topSizesPins
open Go.ChangeShapes Go.WideShapes Go.ChangeAt Go.RowKit
theorem goesF : false = Rows.topSizesPinsRow.goesBy Tryz.pinned.checked.prog := by kernel_rfl
end Go.Proofs.YtjdhkocjkfdebaaGreatDoor.topSizesPins
