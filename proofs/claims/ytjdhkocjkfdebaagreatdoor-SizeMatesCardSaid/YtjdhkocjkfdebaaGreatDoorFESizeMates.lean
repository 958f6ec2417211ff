/- The law SizeMates: whether it goes. -/
import Derived.Test.YtjdhkocjkfdebaaGreatDoorFCSizeMates
import Derived.Test.YtjdhkocjkfdebaaGreatDoorCards
namespace Go.Proofs.YtjdhkocjkfdebaaGreatDoor.sizeMates
open Go.ChangeShapes Go.WideShapes Go.ChangeAt Go.RowKit
theorem goesF : false = Rows.sizeMatesRow.goesBy Tryz.pinned.checked.prog := by kernel_rfl
end Go.Proofs.YtjdhkocjkfdebaaGreatDoor.sizeMates
