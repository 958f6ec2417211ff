/- The card of the law EncloseGrows. -/
import Derived.Test.YtiohngnhjabaiaaGreatDoorFDEncloseGrows
import Derived.Test.YtiohngnhjabaiaaGreatDoorFEEncloseGrows
namespace Go.Proofs.YtiohngnhjabaiaaGreatDoor.encloseGrows
open Go.ChangeShapes Go.WideShapes Go.ChangeAt Go.RowKit Go.Eng
theorem card : Rows.EncloseGrowsCardSaid :=
  Claim7.holds_tied_plain_at .later [] _ _ _ _ said (fun _ h => by cases h) (by kernel_rfl) (fun _ h => by cases h) encloseGrows_row_tie rfl ⟨rfl, rfl⟩ (by kernel_rfl) rfl plainRow goesF
end Go.Proofs.YtiohngnhjabaiaaGreatDoor.encloseGrows
