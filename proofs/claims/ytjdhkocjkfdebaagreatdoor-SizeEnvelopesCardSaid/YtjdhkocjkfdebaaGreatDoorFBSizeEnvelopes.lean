/- Closed facts on the row of the law SizeEnvelopes. -/
import Derived.Test.YtjdhkocjkfdebaaGreatDoorRows
import Derived.Test.YtjdhkocjkfdebaaGreatDoorChecked
import Derived.WalkKit
import Derived.ProofKit
import Derived.OpenShut
import Derived.Deep.DeepHandedRow
namespace Go.Proofs.YtjdhkocjkfdebaaGreatDoor.sizeEnvelopes
open Go.ChangeShapes Go.WideShapes Go.ChangeAt Go.RowKit
theorem unfollowedFact : Tryz.pinned.checked.prog.unfollowed 8 = Rows.sizeEnvelopesRow.unfollowed := by kernel_rfl
theorem recursesFact : Tryz.pinned.checked.prog.recurses 8 = Rows.sizeEnvelopesRow.recurses := by kernel_rfl
end Go.Proofs.YtjdhkocjkfdebaaGreatDoor.sizeEnvelopes
