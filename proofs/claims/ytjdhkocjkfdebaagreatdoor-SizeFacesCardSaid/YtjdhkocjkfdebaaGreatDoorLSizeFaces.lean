/- The card of the law SizeFaces. -/
import Derived.Test.YtjdhkocjkfdebaaGreatDoorFDSizeFaces
import Derived.Test.YtjdhkocjkfdebaaGreatDoorFESizeFaces
namespace Go.Proofs.YtjdhkocjkfdebaaGreatDoor.sizeFaces
open Go.ChangeShapes Go.WideShapes Go.ChangeAt Go.RowKit Go.Eng
theorem card : Rows.SizeFacesCardSaid :=
  Claim7.holds_tied_plain_at .later [] _ _ _ _ said (fun _ h => by cases h) (by kernel_rfl) (fun _ h => by cases h) sizeFaces_row_tie rfl ⟨rfl, rfl⟩ (by kernel_rfl) rfl plainRow goesF
end Go.Proofs.YtjdhkocjkfdebaaGreatDoor.sizeFaces
