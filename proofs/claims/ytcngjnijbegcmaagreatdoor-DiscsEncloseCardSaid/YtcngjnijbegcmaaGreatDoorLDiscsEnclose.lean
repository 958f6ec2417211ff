/- The card of the law DiscsEnclose. -/
import Derived.Test.YtcngjnijbegcmaaGreatDoorFDDiscsEnclose
import Derived.Test.YtcngjnijbegcmaaGreatDoorFEDiscsEnclose
namespace Go.Proofs.YtcngjnijbegcmaaGreatDoor.discsEnclose
open Go.ChangeShapes Go.WideShapes Go.ChangeAt Go.RowKit Go.Eng
theorem card : Rows.DiscsEncloseCardSaid :=
  Claim7.holds_tied_plain_at .later [] _ _ _ _ said (fun _ h => by cases h) (by kernel_rfl) (fun _ h => by cases h) discsEnclose_row_tie rfl ⟨rfl, rfl⟩ (by kernel_rfl) rfl plainRow goesF
end Go.Proofs.YtcngjnijbegcmaaGreatDoor.discsEnclose
