/- The card of the law TopCirclesDiscs. -/
import Derived.Test.YtcngjnijbegcmaaGreatDoorFDTopCirclesDiscs
import Derived.Test.YtcngjnijbegcmaaGreatDoorFETopCirclesDiscs
namespace Go.Proofs.YtcngjnijbegcmaaGreatDoor.topCirclesDiscs
open Go.ChangeShapes Go.WideShapes Go.ChangeAt Go.RowKit Go.Eng
theorem card : Rows.TopCirclesDiscsCardSaid :=
  Claim7.holds_tied_plain_at .later [] _ _ _ _ said (fun _ h => by cases h) (by kernel_rfl) (fun _ h => by cases h) topCirclesDiscs_row_tie rfl ⟨rfl, rfl⟩ (by kernel_rfl) rfl plainRow goesF
end Go.Proofs.YtcngjnijbegcmaaGreatDoor.topCirclesDiscs
