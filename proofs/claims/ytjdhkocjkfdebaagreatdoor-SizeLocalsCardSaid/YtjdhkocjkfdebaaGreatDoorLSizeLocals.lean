/- The card of the law SizeLocals. -/
import Derived.Test.YtjdhkocjkfdebaaGreatDoorFDSizeLocals
import Derived.Test.YtjdhkocjkfdebaaGreatDoorFESizeLocals
namespace Go.Proofs.YtjdhkocjkfdebaaGreatDoor.sizeLocals
open Go.ChangeShapes Go.WideShapes Go.ChangeAt Go.RowKit Go.Eng
theorem card : Rows.SizeLocalsCardSaid :=
  Claim7.holds_tied_plain_at .later [] _ _ _ _ said (fun _ h => by cases h) (by kernel_rfl) (fun _ h => by cases h) sizeLocals_row_tie rfl ⟨rfl, rfl⟩ (by kernel_rfl) rfl plainRow goesF
end Go.Proofs.YtjdhkocjkfdebaaGreatDoor.sizeLocals
