import Derived.Test.YtoemfkkeojmgkaaDoorB44P2
import Derived.Test.YtoemfkkeojmgkaaDoorB44X
namespace Go.Eng
theorem plainChecks (x0 x1 x2 x3 x4 x5 : Int) (x6 : Bool) : (b44f3T [.i x0, .i x1, .i x2, .i x3, .i x4, .i x5, .b x6]).run = some (0, [.b true]) := by
  rw [b44f3eq]
  have w := b44awake
  simp only [run_br, run_leaf, gB, gI, List.getD_cons_zero, List.getD_cons_succ, PV.toI, PV.toB, if_true, ieq_iff, okR_of (p11 _ _ _ _ _ _ _), pR_of (p11 _ _ _ _ _ _ _), okR_of (p12 _ _ _ _ _ _ _), pR_of (p12 _ _ _ _ _ _ _),
    okR_of (p13 _ _ _ _ _ _ _), pR_of (p13 _ _ _ _ _ _ _), okR_of (p14 _ _ _ _ _ _ _), pR_of (p14 _ _ _ _ _ _ _), okR_of (p15 _ _ _ _ _ _ _), pR_of (p15 _ _ _ _ _ _ _), okR_of (p16 _ _ _ _ _ _ _), pR_of (p16 _ _ _ _ _ _ _), okR_of w, pR_of w]
end Go.Eng
