import Derived.Test.YtcdlfamincogdaaDoorQ
import Derived.Test.YtcdlfamincogdaaDoorEngP
namespace Go.Eng
theorem p_slices_Equal_refl (l : R) (h : l.length < 9223372036854775808) : (slices_Equal_int_int_T [.r l, .r l]).run = some (0, [.b true]) := by
  have e : (loopT slices_Equal_int_int_L6S [.r l, .r l, .i (rlen l), .i 0]).run = some (0, []) := by
    refine loop_count (fun i => [.r l, .r l, .i (rlen l), .i (i : Int)]) (0, []) l.length h (fun i hi => ?_) ?_
    · have h1 : (i : Int) < rlen l := by unfold rlen; omega
      rw [slices_Equal_int_int_L6eq]
      simp only [STD, h1, wsucc hi h, show (0 : Int) ≤ (i : Int) by omega, and_self]
    · rw [slices_Equal_int_int_L6eq]
      simp only [STD, show ¬ ((l.length : Int) < rlen l) by unfold rlen; omega]
  rw [slices_Equal_int_int_eq]
  simp only [STD, e, jIs_of e]
end Go.Eng
