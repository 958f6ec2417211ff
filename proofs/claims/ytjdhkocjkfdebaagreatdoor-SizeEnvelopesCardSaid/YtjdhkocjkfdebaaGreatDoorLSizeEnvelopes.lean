/- The card of the law SizeEnvelopes. -/
import Derived.Test.YtjdhkocjkfdebaaGreatDoorFDSizeEnvelopes
import Derived.Test.YtjdhkocjkfdebaaGreatDoorFESizeEnvelopes
namespace Go.Proofs.YtjdhkocjkfdebaaGreatDoor.sizeEnvelopes
open Go.ChangeShapes Go.WideShapes Go.ChangeAt Go.RowKit Go.Eng
theorem card : Rows.SizeEnvelopesCardSaid :=
  Claim7.holds_tied_plain_at .later [] _ _ _ _ said (fun _ h => by cases h) (by kernel_rfl) (fun _ h => by cases h) sizeEnvelopes_row_tie rfl ⟨rfl, rfl⟩ (by kernel_rfl) rfl plainRow goesF
end Go.Proofs.YtjdhkocjkfdebaaGreatDoor.sizeEnvelopes
