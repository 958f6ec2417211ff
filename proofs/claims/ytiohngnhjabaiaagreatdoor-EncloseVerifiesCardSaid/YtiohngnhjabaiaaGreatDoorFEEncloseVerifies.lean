/- The law EncloseVerifies: whether it goes. -/
import Derived.Test.YtiohngnhjabaiaaGreatDoorFCEncloseVerifies
import Derived.Test.YtiohngnhjabaiaaGreatDoorCards
namespace Go.Proofs.YtiohngnhjabaiaaGreatDoor.encloseVerifies
open Go.ChangeShapes Go.WideShapes Go.ChangeAt Go.RowKit
theorem goesF : false = Rows.encloseVerifiesRow.goesBy Tryz.pinned.checked.prog := by kernel_rfl
end Go.Proofs.YtiohngnhjabaiaaGreatDoor.encloseVerifies
