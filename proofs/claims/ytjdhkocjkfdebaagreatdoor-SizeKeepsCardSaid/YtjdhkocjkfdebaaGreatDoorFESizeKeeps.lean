/- The law SizeKeeps: whether it goes. -/
import Derived.Test.YtjdhkocjkfdebaaGreatDoorFCSizeKeeps
import Derived.Test.YtjdhkocjkfdebaaGreatDoorCards
namespace Go.Proofs.YtjdhkocjkfdebaaGreatDoor.sizeKeeps
open Go.ChangeShapes Go.WideShapes Go.ChangeAt Go.RowKit
theorem goesF : false = Rows.sizeKeepsRow.goesBy Tryz.pinned.checked.prog := by kernel_rfl
end Go.Proofs.YtjdhkocjkfdebaaGreatDoor.sizeKeeps
