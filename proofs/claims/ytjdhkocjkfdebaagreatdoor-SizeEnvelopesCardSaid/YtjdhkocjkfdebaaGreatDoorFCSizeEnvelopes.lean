/- Closed facts on the row of the law SizeEnvelopes. -/
import Derived.Test.YtjdhkocjkfdebaaGreatDoorFASizeEnvelopes
import Derived.Test.YtjdhkocjkfdebaaGreatDoorFBSizeEnvelopes
namespace Go.Proofs.YtjdhkocjkfdebaaGreatDoor.sizeEnvelopes
open Go.ChangeShapes Go.WideShapes Go.ChangeAt Go.RowKit
theorem closedFact : joinedFacts Tryz.pinned.checked.prog 8 Tryz.f8 (OpenSpec.ofChange Rows.sizeEnvelopesSpec).bare Rows.sizeEnvelopesRow = true := by
  unfold joinedFacts
  rw [inPlaceFact, namedFact, unfollowedFact, recursesFact]
  kernel_rfl
end Go.Proofs.YtjdhkocjkfdebaaGreatDoor.sizeEnvelopes
