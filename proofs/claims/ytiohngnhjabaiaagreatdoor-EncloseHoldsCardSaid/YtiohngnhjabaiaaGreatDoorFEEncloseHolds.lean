/- The law EncloseHolds: whether it goes. -/
import Derived.Test.YtiohngnhjabaiaaGreatDoorFCEncloseHolds
import Derived.Test.YtiohngnhjabaiaaGreatDoorCards
namespace Go.Proofs.YtiohngnhjabaiaaGreatDoor.encloseHolds
open Go.ChangeShapes Go.WideShapes Go.ChangeAt Go.RowKit
theorem goesF : false = Rows.encloseHoldsRow.goesBy Tryz.pinned.checked.prog := by kernel_rfl
end Go.Proofs.YtiohngnhjabaiaaGreatDoor.encloseHolds
