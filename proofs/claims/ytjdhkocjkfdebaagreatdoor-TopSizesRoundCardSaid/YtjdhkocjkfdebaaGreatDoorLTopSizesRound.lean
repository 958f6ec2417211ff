/- The card of the law TopSizesRound. -/
import Derived.Test.YtjdhkocjkfdebaaGreatDoorFDTopSizesRound
import Derived.Test.YtjdhkocjkfdebaaGreatDoorFETopSizesRound
namespace Go.Proofs.YtjdhkocjkfdebaaGreatDoor.topSizesRound
open Go.ChangeShapes Go.WideShapes Go.ChangeAt Go.RowKit Go.Eng
theorem card : Rows.TopSizesRoundCardSaid :=
  Claim7.holds_tied_plain_at .later [] _ _ _ _ said (fun _ h => by cases h) (by kernel_rfl) (fun _ h => by cases h) topSizesRound_row_tie rfl ⟨rfl, rfl⟩ (by kernel_rfl) rfl plainRow goesF
end Go.Proofs.YtjdhkocjkfdebaaGreatDoor.topSizesRound
