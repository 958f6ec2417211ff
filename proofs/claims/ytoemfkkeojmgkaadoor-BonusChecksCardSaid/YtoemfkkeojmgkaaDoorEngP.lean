/- ENGINE P. For plain laws. -/
import Derived.Test.YtoemfkkeojmgkaaDoorEngZ
namespace Go.Eng

theorem run_br {α : Type} (b : Bool) (t e : Tree α) : (Tree.br b t e).run = if b = true then t.run else e.run := by cases b <;> rfl
theorem run_leaf {α : Type} (a : α) : (Tree.leaf a).run = some a := rfl
theorem run_fail {α : Type} : (Tree.fail : Tree α).run = none := rfl
theorem okR_of {R : TR} {x : Nat × List PV} (h : R.run = some x) : okR R = true := by simp [okR, h]
theorem pR_of {R : TR} {j : Nat} {ps : List PV} (h : R.run = some (j, ps)) (i : Nat) : pR R i = ps.getD i (.i 0) := by simp [pR, h]

theorem wadd_eq {x y : Int} (h : -9223372036854775808 ≤ x + y ∧ x + y ≤ 9223372036854775807) : wadd .i64 x y = x + y := by
  unfold wadd IntKind.wrap
  simp [IntKind.signed, IntKind.bits]; omega
theorem wsub_eq {x y : Int} (h : -9223372036854775808 ≤ x - y ∧ x - y ≤ 9223372036854775807) : wsub .i64 x y = x - y := by
  unfold wsub IntKind.wrap
  simp [IntKind.signed, IntKind.bits]; omega
theorem wmul_eq {x y : Int} (h : -9223372036854775808 ≤ x * y ∧ x * y ≤ 9223372036854775807) : wmul .i64 x y = x * y := by
  unfold wmul IntKind.wrap
  simp [IntKind.signed, IntKind.bits]; omega
theorem ieq_iff (x y : Int) : (ieq x y = true) = (x = y) := by simp [ieq]
theorem ine_iff (x y : Int) : (ine x y = true) = (x ≠ y) := by simp [ine]
theorem ilt_iff (x y : Int) : (ilt x y = true) = (x < y) := by simp [ilt]
theorem ile_iff (x y : Int) : (ile x y = true) = (x ≤ y) := by simp [ile]
theorem beq_iff (x y : Bool) : (Go.Eng.beq x y = true) = (x = y) := by simp [Go.Eng.beq]

end Go.Eng
