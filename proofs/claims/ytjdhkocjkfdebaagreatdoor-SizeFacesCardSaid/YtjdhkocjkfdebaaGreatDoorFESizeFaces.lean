/- The law SizeFaces: whether it goes. -/
import Derived.Test.YtjdhkocjkfdebaaGreatDoorFCSizeFaces
import Derived.Test.YtjdhkocjkfdebaaGreatDoorCards
namespace Go.Proofs.YtjdhkocjkfdebaaGreatDoor.sizeFaces
open Go.ChangeShapes Go.WideShapes Go.ChangeAt Go.RowKit
theorem goesF : false = Rows.sizeFacesRow.goesBy Tryz.pinned.checked.prog := by kernel_rfl
end Go.Proofs.YtjdhkocjkfdebaaGreatDoor.sizeFaces
