/- The card of the law TopCirclesCenters. -/
import Derived.Test.YtcngjnijbegcmaaGreatDoorFDTopCirclesCenters
import Derived.Test.YtcngjnijbegcmaaGreatDoorFETopCirclesCenters
namespace Go.Proofs.YtcngjnijbegcmaaGreatDoor.topCirclesCenters
open Go.ChangeShapes Go.WideShapes Go.ChangeAt Go.RowKit Go.Eng
theorem card : Rows.TopCirclesCentersCardSaid :=
  Claim7.holds_tied_plain_at .later [] _ _ _ _ said (fun _ h => by cases h) (by kernel_rfl) (fun _ h => by cases h) topCirclesCenters_row_tie rfl ⟨rfl, rfl⟩ (by kernel_rfl) rfl plainRow goesF
end Go.Proofs.YtcngjnijbegcmaaGreatDoor.topCirclesCenters
