/- The law EncloseGrows: whether it goes. -/
import Derived.Test.YtiohngnhjabaiaaGreatDoorFCEncloseGrows
import Derived.Test.YtiohngnhjabaiaaGreatDoorCards
namespace Go.Proofs.YtiohngnhjabaiaaGreatDoor.encloseGrows
open Go.ChangeShapes Go.WideShapes Go.ChangeAt Go.RowKit
theorem goesF : false = Rows.encloseGrowsRow.goesBy Tryz.pinned.checked.prog := by kernel_rfl
end Go.Proofs.YtiohngnhjabaiaaGreatDoor.encloseGrows
