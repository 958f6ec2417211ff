import Derived.Test.YtcdlfamincogdaaDoorQ
import Derived.Test.YtcdlfamincogdaaDoorEngP
namespace Go.Eng
def chk (x0 x1 x2 x3 x4 x5 : Int) (x6 : Bool) : Int :=
  if ¬(-100000 ≤ x0 ∧ x0 ≤ 100000 ∧ -100000 ≤ x1 ∧ x1 ≤ 100000 ∧ 1 ≤ x2 ∧ x2 ≤ 100000 ∧ 1 ≤ x3 ∧ x3 ≤ 100000) then 2
  else if x3 < x2 then 9
  else if x4 < 0 ∨ 100000 < x4 ∨ (x6 = false ∧ x2 ≤ x4) then 2
  else if x5 < 0 ∨ 2 < x5 then 1 else 0
theorem p_bonus_in (x : Int) : (bonus_in_T [.i x]).run = some (0, [.b (decide (-100000 ≤ x ∧ x ≤ 100000))]) := by
  rw [bonus_in_eq]; simp only [run_br, run_leaf, ile_iff]; by_cases h : -100000 ≤ x <;> simp [h, ile]
theorem p_ref07_in (x : Int) : (ref07_in_T [.i x]).run = some (0, [.b (decide (-100000 ≤ x ∧ x ≤ 100000))]) := by
  rw [ref07_in_eq]; simp only [run_br, run_leaf, ile_iff]; by_cases h : -100000 ≤ x <;> simp [h, ile]
theorem p_bonus_size (x : Int) : (bonus_size_T [.i x]).run = some (0, [.b (decide (1 ≤ x ∧ x ≤ 100000))]) := by
  rw [bonus_size_eq]; simp only [run_br, run_leaf, ile_iff]; by_cases h : 1 ≤ x <;> simp [h, ile]
theorem p_ref44_size (x : Int) : (ref44_size_T [.i x]).run = some (0, [.b (decide (1 ≤ x ∧ x ≤ 100000))]) := by
  rw [ref44_size_eq]; simp only [run_br, run_leaf, ile_iff]; by_cases h : 1 ≤ x <;> simp [h, ile]
theorem p_ref07_Right (x y : Int) : (ref07_Right_T [.i x, .i y]).run = some (0, [.b (decide (-100000 ≤ x ∧ x ≤ 100000 ∧ -100000 ≤ y ∧ y ≤ 100000))]) := by
  rw [ref07_Right_eq]; simp only [run_br, run_leaf, okR_of (p_ref07_in _), gB, pR_of (p_ref07_in _), List.getD_cons_zero, PV.toB, if_true, decide_eq_true_eq]
  by_cases h : -100000 ≤ x <;> by_cases h2 : x ≤ 100000 <;> simp [h, h2]
theorem p_bonus_Check (x0 x1 x2 x3 x4 x5 : Int) (x6 : Bool) : (bonus_Check_T [.i x0, .i x1, .i x2, .i x3, .i x4, .i x5, .b x6]).run = some (0, [.i (chk x0 x1 x2 x3 x4 x5 x6)]) := by
  rw [bonus_Check_eq]
  simp only [run_br, run_leaf, okR_of (p_bonus_in _), gB, pR_of (p_bonus_in _), okR_of (p_bonus_size _), pR_of (p_bonus_size _), List.getD_cons_zero, PV.toB, if_true, decide_eq_true_eq, Bool.not_eq_true', decide_eq_false_iff_not, ilt_iff, ile_iff]
  unfold chk
  cases x6 <;> simp only [reduceCtorEq, if_true, if_false, false_and, true_and, or_false] <;> repeat' split
  all_goals first | rfl | omega
theorem p_ref44_Check (x0 x1 x2 x3 x4 x5 : Int) (x6 : Bool) : (ref44_Check_T [.i x0, .i x1, .i x2, .i x3, .i x4, .i x5, .b x6]).run = some (0, [.i (chk x0 x1 x2 x3 x4 x5 x6)]) := by
  rw [ref44_Check_eq]
  simp only [run_br, run_leaf, okR_of (p_ref07_Right _ _), gB, pR_of (p_ref07_Right _ _), okR_of (p_ref44_size _), pR_of (p_ref44_size _), List.getD_cons_zero, PV.toB, if_true, decide_eq_true_eq, Bool.not_eq_true', decide_eq_false_iff_not, ilt_iff, ile_iff]
  unfold chk
  cases x6 <;> simp only [reduceCtorEq, if_true, if_false, false_and, true_and, or_false] <;> repeat' split
  all_goals first | rfl | omega

theorem chk_zero {x0 x1 x2 x3 x4 x5 : Int} {x6 : Bool} (h : chk x0 x1 x2 x3 x4 x5 x6 = 0) : -100000 ≤ x0 ∧ x0 ≤ 100000 ∧ -100000 ≤ x1 ∧ x1 ≤ 100000 ∧ 1 ≤ x2 ∧ x2 ≤ 100000 ∧ 1 ≤ x3 ∧ x3 ≤ 100000 ∧ x2 ≤ x3 ∧ 0 ≤ x4 ∧ x4 ≤ 100000 ∧ (x6 = false → x4 < x2) ∧ 0 ≤ x5 ∧ x5 ≤ 2 := by
  unfold chk at h
  repeat' split at h
  all_goals first | omega | skip
  rename_i h1 h2 h3 h4
  cases x6 <;> simp at h3 ⊢ <;> omega
def side (x5 : Int) (x6 : Bool) : Int := if (x5 = 2) = (x6 = true) then -1 else 1
theorem p_bonus_of (x0 x1 x2 x3 x4 x5 : Int) (x6 : Bool) (h : 0 ≤ x5 ∧ x5 ≤ 2) : (bonus_of_T [.i x0, .i x1, .i x2, .i x3, .i x4, .i x5, .b x6]).run = some (0, [.i x0, .i x1, .i x2, .i x3, .i x4, .i x5, .b x6, .i (side x5 x6)]) := by
  rw [bonus_of_eq]
  have h012 : x5 = 0 ∨ x5 = 1 ∨ x5 = 2 := by omega
  cases x6 <;> rcases h012 with rfl | rfl | rfl <;> rfl
theorem p_bonus_condition_end (x0 x1 x2 x3 x4 x5 : Int) (x6 : Bool) (x7 x8 : Int) : (bonus_condition_end_T [.i x0, .i x1, .i x2, .i x3, .i x4, .i x5, .b x6, .i x7, .i x8]).run = some (0, [.i (if x8 < 0 then x2 else x3)]) := by
  rw [bonus_condition_end_eq]
  simp only [run_br, run_leaf, gB, gI, List.getD_cons_zero, List.getD_cons_succ, PV.toB, PV.toI, if_true, decide_eq_true_eq, Bool.not_eq_true', decide_eq_false_iff_not, ilt_iff, ile_iff, ieq_iff, ine_iff, beq_iff]
  split <;> rfl
theorem p_ref44_Gauge (x0 x1 x2 x3 x4 x5 : Int) (x6 : Bool) : (ref44_Gauge_T [.i x0, .i x1, .i x2, .i x3, .i x4, .i x5, .b x6]).run = some (0, [.i (if (x5 = 2) = (x6 = true) then wsub .i64 x2 x4 else wadd .i64 x3 x4)]) := by
  rw [ref44_Gauge_eq]
  simp only [run_br, run_leaf, gB, gI, List.getD_cons_zero, List.getD_cons_succ, PV.toB, PV.toI, if_true, decide_eq_true_eq, Bool.not_eq_true', decide_eq_false_iff_not, ilt_iff, ile_iff, ieq_iff, ine_iff, beq_iff]
  by_cases h : x5 = 2 <;> cases x6 <;> simp [h, ieq]
theorem p_bonus_Virtual (x0 x1 x2 x3 x4 x5 : Int) (x6 : Bool) : (bonus_Virtual_T [.i x0, .i x1, .i x2, .i x3, .i x4, .i x5, .b x6]).run = some (0, if chk x0 x1 x2 x3 x4 x5 x6 = 0 then [.i (if (x5 = 2) = (x6 = true) then x2 - x4 else x3 + x4), .i 0] else [.i 0, .i (chk x0 x1 x2 x3 x4 x5 x6)]) := by
  rw [bonus_Virtual_eq]
  simp only [run_br, run_leaf, gB, gI, List.getD_cons_zero, List.getD_cons_succ, PV.toB, PV.toI, if_true, decide_eq_true_eq, Bool.not_eq_true', decide_eq_false_iff_not, ilt_iff, ile_iff, ieq_iff, ine_iff, beq_iff, okR_of (p_bonus_Check _ _ _ _ _ _ _), pR_of (p_bonus_Check _ _ _ _ _ _ _)]
  by_cases hc : chk x0 x1 x2 x3 x4 x5 x6 = 0
  · obtain ⟨h1, h2, h3, h4, h5, h6, h7, h8, h9, h10, h11, h12, h13, h14⟩ := chk_zero hc
    have e := p_bonus_of x0 x1 x2 x3 x4 x5 x6 ⟨h13, h14⟩
    simp only [hc, ne_eq, not_true_eq_false, if_false, okR_of e, pR_of e, run_br, run_leaf, gB, gI, List.getD_cons_zero, List.getD_cons_succ, PV.toB, PV.toI, if_true, decide_eq_true_eq, Bool.not_eq_true', decide_eq_false_iff_not, ilt_iff, ile_iff, ieq_iff, ine_iff, beq_iff, okR_of (p_bonus_condition_end _ _ _ _ _ _ _ _ _), pR_of (p_bonus_condition_end _ _ _ _ _ _ _ _ _)]
    clear e hc
    congr 4
    unfold side
    split
    · have e1 : wmul .i64 (-1) x4 = -1 * x4 := wmul_eq (by omega)
      have e2 : wadd .i64 x2 (-1 * x4) = x2 + -1 * x4 := wadd_eq (by omega)
      rw [if_pos (show (-1 : Int) < 0 by decide), e1, e2]; omega
    · have e1 : wmul .i64 1 x4 = 1 * x4 := wmul_eq (by omega)
      have e2 : wadd .i64 x3 (1 * x4) = x3 + 1 * x4 := wadd_eq (by omega)
      rw [if_neg (show ¬ (1 : Int) < 0 by decide), e1, e2]; omega
  · simp [hc]
end Go.Eng
