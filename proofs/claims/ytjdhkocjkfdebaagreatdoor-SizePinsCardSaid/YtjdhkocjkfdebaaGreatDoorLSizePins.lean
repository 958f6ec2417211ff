/- The card of the law SizePins. -/
import Derived.Test.YtjdhkocjkfdebaaGreatDoorFDSizePins
import Derived.Test.YtjdhkocjkfdebaaGreatDoorFESizePins
namespace Go.Proofs.YtjdhkocjkfdebaaGreatDoor.sizePins
open Go.ChangeShapes Go.WideShapes Go.ChangeAt Go.RowKit Go.Eng
theorem card : Rows.SizePinsCardSaid :=
  Claim7.holds_tied_plain_at .later [] _ _ _ _ said (fun _ h => by cases h) (by kernel_rfl) (fun _ h => by cases h) sizePins_row_tie rfl ⟨rfl, rfl⟩ (by kernel_rfl) rfl plainRow goesF
end Go.Proofs.YtjdhkocjkfdebaaGreatDoor.sizePins
