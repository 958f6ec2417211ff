/- The card of the law TopSizesPins. -/
import Derived.Test.YtjdhkocjkfdebaaGreatDoorFDTopSizesPins
import Derived.Test.YtjdhkocjkfdebaaGreatDoorFETopSizesPins
namespace Go.Proofs.YtjdhkocjkfdebaaGreatDoor.topSizesPins
open Go.ChangeShapes Go.WideShapes Go.ChangeAt Go.RowKit Go.Eng
theorem card : Rows.TopSizesPinsCardSaid :=
  Claim7.holds_tied_plain_at .later [] _ _ _ _ said (fun _ h => by cases h) (by kernel_rfl) (fun _ h => by cases h) topSizesPins_row_tie rfl ⟨rfl, rfl⟩ (by kernel_rfl) rfl plainRow goesF
end Go.Proofs.YtjdhkocjkfdebaaGreatDoor.topSizesPins
