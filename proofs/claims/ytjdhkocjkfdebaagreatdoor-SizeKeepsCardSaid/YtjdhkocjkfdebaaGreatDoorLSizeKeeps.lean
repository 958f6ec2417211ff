/- The card of the law SizeKeeps. -/
import Derived.Test.YtjdhkocjkfdebaaGreatDoorFDSizeKeeps
import Derived.Test.YtjdhkocjkfdebaaGreatDoorFESizeKeeps
namespace Go.Proofs.YtjdhkocjkfdebaaGreatDoor.sizeKeeps
open Go.ChangeShapes Go.WideShapes Go.ChangeAt Go.RowKit Go.Eng
theorem card : Rows.SizeKeepsCardSaid :=
  Claim7.holds_tied_plain_at .later [] _ _ _ _ said (fun _ h => by cases h) (by kernel_rfl) (fun _ h => by cases h) sizeKeeps_row_tie rfl ⟨rfl, rfl⟩ (by kernel_rfl) rfl plainRow goesF
end Go.Proofs.YtjdhkocjkfdebaaGreatDoor.sizeKeeps
