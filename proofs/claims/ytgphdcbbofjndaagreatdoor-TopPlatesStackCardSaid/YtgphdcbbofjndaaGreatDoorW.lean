/- A world in which the listed variables lie as their initialisers lay them. -/
import Derived.Test.YtgphdcbbofjndaaGreatDoorRows
import Derived.Test.YtgphdcbbofjndaaGreatDoorProg
import Derived.Test.YtgphdcbbofjndaaGreatDoorPWorld
import Derived.Lib.LaidIn
import Derived.WalkKit
import Derived.ProofKit
namespace Go.Proofs.YtgphdcbbofjndaaGreatDoor
open Go.Eng
noncomputable def low0 : Nat := (World.holding Tryz.prog default ⟨#[], #[], []⟩).heap.size
noncomputable def laidWorld (os : Os) : World :=
  let w0 := World.holding Tryz.prog os ⟨#[.cells #[.string (errText Rows.laid_strconv_ErrRange)] 276, .cells #[.string (errText Rows.laid_strconv_ErrSyntax)] 276], #[], []⟩
  { w0 with heap := putC (putC (putC (putC (putC (putC (putC (putC (w0.heap) 7 ((flatV Rows.laid_math_bits_deBruijn32tab).toArray)) 8 ((flatV Rows.laid_math_bits_deBruijn64tab).toArray)) 1 ((flatV Rows.laid_internal_strconv_uint64pow10).toArray)) 0 ((flatV Rows.laid_metrolab_bonus_signs).toArray)) 4 ((flatV Rows.laid_unicode_utf8_acceptRanges).toArray)) 6 (#[.iface 274 (.pointer (some ⟨low0 + 0, 0, none⟩))])) 5 (#[.iface 274 (.pointer (some ⟨low0 + 1, 0, none⟩))])) 3 ((flatV Rows.laid_unicode_utf8_first).toArray) }
set_option maxRecDepth 100000 in
theorem piece0 (os : Os) (args : Array Value) : LaidIn Tryz.prog ((laidWorld os).forCall (fun _ _ => 0) ⟨#[], args, []⟩).memory [("math/bits.deBruijn32tab", Rows.laid_math_bits_deBruijn32tab)] [7] :=
  LaidIn.of_run [7] 8 (by kernel_rfl) (by kernel_rfl) (by kernel_rfl) (by kernel_rfl)
set_option maxRecDepth 100000 in
theorem piece1 (os : Os) (args : Array Value) : LaidIn Tryz.prog ((laidWorld os).forCall (fun _ _ => 0) ⟨#[], args, []⟩).memory [("math/bits.deBruijn64tab", Rows.laid_math_bits_deBruijn64tab)] [8] :=
  LaidIn.of_run [8] 8 (by kernel_rfl) (by kernel_rfl) (by kernel_rfl) (by kernel_rfl)
set_option maxRecDepth 100000 in
theorem piece2 (os : Os) (args : Array Value) : LaidIn Tryz.prog ((laidWorld os).forCall (fun _ _ => 0) ⟨#[], args, []⟩).memory [("internal/strconv.uint64pow10", Rows.laid_internal_strconv_uint64pow10)] [1] :=
  LaidIn.of_run [1] 8 (by kernel_rfl) (by kernel_rfl) (by kernel_rfl) (by kernel_rfl)
set_option maxRecDepth 100000 in
theorem piece3 (os : Os) (args : Array Value) : LaidIn Tryz.prog ((laidWorld os).forCall (fun _ _ => 0) ⟨#[], args, []⟩).memory [("metrolab/bonus.signs", Rows.laid_metrolab_bonus_signs)] [0] :=
  LaidIn.of_run [0] 8 (by kernel_rfl) (by kernel_rfl) (by kernel_rfl) (by kernel_rfl)
set_option maxRecDepth 100000 in
theorem piece4 (os : Os) (args : Array Value) : LaidIn Tryz.prog ((laidWorld os).forCall (fun _ _ => 0) ⟨#[], args, []⟩).memory [("unicode/utf8.acceptRanges", Rows.laid_unicode_utf8_acceptRanges)] [4] :=
  LaidIn.of_run [4] 8 (by kernel_rfl) (by kernel_rfl) (by kernel_rfl) (by kernel_rfl)
set_option maxRecDepth 100000 in
theorem piece5 (os : Os) (args : Array Value) : LaidIn Tryz.prog ((laidWorld os).forCall (fun _ _ => 0) ⟨#[], args, []⟩).memory [("strconv.ErrRange", Rows.laid_strconv_ErrRange)] [6, low0 + 0] :=
  LaidIn.of_run [6, low0 + 0] 8 (by kernel_rfl) (by kernel_rfl) (by kernel_rfl) (by kernel_rfl)
set_option maxRecDepth 100000 in
theorem piece6 (os : Os) (args : Array Value) : LaidIn Tryz.prog ((laidWorld os).forCall (fun _ _ => 0) ⟨#[], args, []⟩).memory [("strconv.ErrSyntax", Rows.laid_strconv_ErrSyntax)] [5, low0 + 1] :=
  LaidIn.of_run [5, low0 + 1] 8 (by kernel_rfl) (by kernel_rfl) (by kernel_rfl) (by kernel_rfl)
set_option maxRecDepth 100000 in
theorem piece7 (os : Os) (args : Array Value) : LaidIn Tryz.prog ((laidWorld os).forCall (fun _ _ => 0) ⟨#[], args, []⟩).memory [("unicode/utf8.first", Rows.laid_unicode_utf8_first)] [3] :=
  LaidIn.of_run [3] 8 (by kernel_rfl) (by kernel_rfl) (by kernel_rfl) (by kernel_rfl)
theorem world_met (os : Os) (args : Array Value) : laidMet Tryz.prog [("math/bits.deBruijn32tab", Rows.laid_math_bits_deBruijn32tab), ("math/bits.deBruijn64tab", Rows.laid_math_bits_deBruijn64tab), ("internal/strconv.uint64pow10", Rows.laid_internal_strconv_uint64pow10), ("metrolab/bonus.signs", Rows.laid_metrolab_bonus_signs), ("unicode/utf8.acceptRanges", Rows.laid_unicode_utf8_acceptRanges), ("strconv.ErrRange", Rows.laid_strconv_ErrRange), ("strconv.ErrSyntax", Rows.laid_strconv_ErrSyntax), ("unicode/utf8.first", Rows.laid_unicode_utf8_first)] ((laidWorld os).forCall (fun _ _ => 0) ⟨#[], args, []⟩).memory :=
  ((((((((piece0 os args).append (piece1 os args) (by kernel_rfl)).append (piece2 os args) (by kernel_rfl)).append (piece3 os args) (by kernel_rfl)).append (piece4 os args) (by kernel_rfl)).append (piece5 os args) (by kernel_rfl)).append (piece6 os args) (by kernel_rfl)).append (piece7 os args) (by kernel_rfl)).met
end Go.Proofs.YtgphdcbbofjndaaGreatDoor
