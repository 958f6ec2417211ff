/- The law SizeEnvelopes: whether it goes. -/
import Derived.Test.YtjdhkocjkfdebaaGreatDoorFCSizeEnvelopes
import Derived.Test.YtjdhkocjkfdebaaGreatDoorCards
namespace Go.Proofs.YtjdhkocjkfdebaaGreatDoor.sizeEnvelopes
open Go.ChangeShapes Go.WideShapes Go.ChangeAt Go.RowKit
theorem goesF : false = Rows.sizeEnvelopesRow.goesBy Tryz.pinned.checked.prog := by kernel_rfl
end Go.Proofs.YtjdhkocjkfdebaaGreatDoor.sizeEnvelopes
