/- The law TopSizesRound: whether it goes. -/
import Derived.Test.YtjdhkocjkfdebaaGreatDoorFCTopSizesRound
import Derived.Test.YtjdhkocjkfdebaaGreatDoorCards
namespace Go.Proofs.YtjdhkocjkfdebaaGreatDoor.topSizesRound
open Go.ChangeShapes Go.WideShapes Go.ChangeAt Go.RowKit
theorem goesF : false = Rows.topSizesRoundRow.goesBy Tryz.pinned.checked.prog := by kernel_rfl
end Go.Proofs.YtjdhkocjkfdebaaGreatDoor.topSizesRound
