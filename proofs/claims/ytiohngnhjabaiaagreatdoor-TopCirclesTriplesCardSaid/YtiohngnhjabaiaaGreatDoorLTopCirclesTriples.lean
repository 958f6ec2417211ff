/- The card of the law TopCirclesTriples. -/
import Derived.Test.YtiohngnhjabaiaaGreatDoorFDTopCirclesTriples
import Derived.Test.YtiohngnhjabaiaaGreatDoorFETopCirclesTriples
namespace Go.Proofs.YtiohngnhjabaiaaGreatDoor.topCirclesTriples
open Go.ChangeShapes Go.WideShapes Go.ChangeAt Go.RowKit Go.Eng
theorem card : Rows.TopCirclesTriplesCardSaid :=
  Claim7.holds_tied_plain_at .later [] _ _ _ _ said (fun _ h => by cases h) (by kernel_rfl) (fun _ h => by cases h) topCirclesTriples_row_tie rfl ⟨rfl, rfl⟩ (by kernel_rfl) rfl plainRow goesF
end Go.Proofs.YtiohngnhjabaiaaGreatDoor.topCirclesTriples
