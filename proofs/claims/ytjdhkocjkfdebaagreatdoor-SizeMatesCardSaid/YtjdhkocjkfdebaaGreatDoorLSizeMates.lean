/- The card of the law SizeMates. -/
import Derived.Test.YtjdhkocjkfdebaaGreatDoorFDSizeMates
import Derived.Test.YtjdhkocjkfdebaaGreatDoorFESizeMates
namespace Go.Proofs.YtjdhkocjkfdebaaGreatDoor.sizeMates
open Go.ChangeShapes Go.WideShapes Go.ChangeAt Go.RowKit Go.Eng
theorem card : Rows.SizeMatesCardSaid :=
  Claim7.holds_tied_plain_at .later [] _ _ _ _ said (fun _ h => by cases h) (by kernel_rfl) (fun _ h => by cases h) sizeMates_row_tie rfl ⟨rfl, rfl⟩ (by kernel_rfl) rfl plainRow goesF
end Go.Proofs.YtjdhkocjkfdebaaGreatDoor.sizeMates
