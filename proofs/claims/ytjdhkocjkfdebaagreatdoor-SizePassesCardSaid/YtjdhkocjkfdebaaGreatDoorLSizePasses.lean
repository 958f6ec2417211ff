/- The card of the law SizePasses. -/
import Derived.Test.YtjdhkocjkfdebaaGreatDoorFDSizePasses
import Derived.Test.YtjdhkocjkfdebaaGreatDoorFESizePasses
namespace Go.Proofs.YtjdhkocjkfdebaaGreatDoor.sizePasses
open Go.ChangeShapes Go.WideShapes Go.ChangeAt Go.RowKit Go.Eng
theorem card : Rows.SizePassesCardSaid :=
  Claim7.holds_tied_plain_at .later [] _ _ _ _ said (fun _ h => by cases h) (by kernel_rfl) (fun _ h => by cases h) sizePasses_row_tie rfl ⟨rfl, rfl⟩ (by kernel_rfl) rfl plainRow goesF
end Go.Proofs.YtjdhkocjkfdebaaGreatDoor.sizePasses
