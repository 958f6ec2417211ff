/- The law TopPlatesStack: whether it goes. -/
import Derived.Test.YtgphdcbbofjndaaGreatDoorFCTopPlatesStack
import Derived.Test.YtgphdcbbofjndaaGreatDoorCards
namespace Go.Proofs.YtgphdcbbofjndaaGreatDoor.topPlatesStack
open Go.ChangeShapes Go.WideShapes Go.ChangeAt Go.RowKit
theorem goesF : false = Rows.topPlatesStackRow.goesBy Tryz.pinned.checked.prog := by kernel_rfl
end Go.Proofs.YtgphdcbbofjndaaGreatDoor.topPlatesStack
