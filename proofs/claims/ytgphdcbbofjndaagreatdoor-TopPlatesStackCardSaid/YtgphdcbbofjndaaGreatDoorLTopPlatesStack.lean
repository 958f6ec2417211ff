/- The card of the law TopPlatesStack. -/
import Derived.Test.YtgphdcbbofjndaaGreatDoorFDTopPlatesStack
import Derived.Test.YtgphdcbbofjndaaGreatDoorFETopPlatesStack
namespace Go.Proofs.YtgphdcbbofjndaaGreatDoor.topPlatesStack
open Go.ChangeShapes Go.WideShapes Go.ChangeAt Go.RowKit Go.Eng
theorem card : Rows.TopPlatesStackCardSaid :=
  Claim7.holds_tied_plain_at .later [] _ _ _ _ said (fun _ h => by cases h) (by kernel_rfl) (fun _ h => by cases h) topPlatesStack_row_tie rfl ⟨rfl, rfl⟩ (by kernel_rfl) rfl plainRow goesF
end Go.Proofs.YtgphdcbbofjndaaGreatDoor.topPlatesStack
