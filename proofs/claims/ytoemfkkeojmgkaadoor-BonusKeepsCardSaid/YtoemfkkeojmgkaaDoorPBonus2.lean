import Derived.Test.YtoemfkkeojmgkaaDoorPBonus
namespace Go.Eng
def oth (x2 x3 x4 x5 : Int) (x6 : Bool) : Int := if (x5 = 2) = (x6 = true) then x3 + x4 + (if x5 = 0 then 0 else x3 - x2) else x2 - x4 - (if x5 = 0 then 0 else x3 - x2)
theorem p_ref44_Other (x0 x1 x2 x3 x4 x5 : Int) (x6 : Bool) (h : 1 ≤ x2 ∧ x2 ≤ 100000 ∧ 1 ≤ x3 ∧ x3 ≤ 100000 ∧ 0 ≤ x4 ∧ x4 ≤ 100000) : (ref44_Other_T [.i x0, .i x1, .i x2, .i x3, .i x4, .i x5, .b x6]).run = some (0, [.i (oth x2 x3 x4 x5 x6)]) := by
  rw [ref44_Other_eq]
  have e1 : wadd .i64 x3 x4 = x3 + x4 := wadd_eq (by omega)
  have e2 : wsub .i64 x3 x2 = x3 - x2 := wsub_eq (by omega)
  have e3 : wsub .i64 x2 x4 = x2 - x4 := wsub_eq (by omega)
  have e4 : wadd .i64 (x3 + x4) (x3 - x2) = x3 + x4 + (x3 - x2) := wadd_eq (by omega)
  have e5 : wsub .i64 (x2 - x4) (x3 - x2) = x2 - x4 - (x3 - x2) := wsub_eq (by omega)
  have e6 : wadd .i64 (x3 + x4) 0 = x3 + x4 + 0 := wadd_eq (by omega)
  have e7 : wsub .i64 (x2 - x4) 0 = x2 - x4 - 0 := wsub_eq (by omega)
  simp only [run_br, run_leaf, ine_iff, beq_iff, e1, e2, e3, e4, e5, e6, e7]
  unfold oth
  by_cases h0 : x5 = 0
  · subst h0; cases x6 <;> simp [ieq]
  · by_cases h2 : x5 = 2
    · subst h2; cases x6 <;> simp [ieq]
    · cases x6 <;> simp [ieq, h0, h2]
theorem p_ref44_Resultant (x0 x1 x2 x3 x4 x5 : Int) (x6 : Bool) : (ref44_Resultant_T [.i x0, .i x1, .i x2, .i x3, .i x4, .i x5, .b x6]).run = some (0, if chk x0 x1 x2 x3 x4 x5 x6 = 0 then [.i (oth x2 x3 x4 x5 x6), .i 0] else [.i 0, .i (chk x0 x1 x2 x3 x4 x5 x6)]) := by
  rw [ref44_Resultant_eq]
  simp only [run_br, run_leaf, gB, gI, List.getD_cons_zero, PV.toI, if_true, ine_iff, okR_of (p_ref44_Check _ _ _ _ _ _ _), pR_of (p_ref44_Check _ _ _ _ _ _ _)]
  by_cases hc : chk x0 x1 x2 x3 x4 x5 x6 = 0
  · obtain ⟨h1, h2, h3, h4, h5, h6, h7, h8, h9, h10, h11, h12, h13, h14⟩ := chk_zero hc
    have e := p_ref44_Other x0 x1 x2 x3 x4 x5 x6 ⟨h5, h6, h7, h8, h10, h11⟩
    simp only [hc, ne_eq, not_true_eq_false, if_false, if_true, okR_of e, pR_of e, List.getD_cons_zero, PV.toI]
  · simp [hc]
theorem p_bonus_Resultant (x0 x1 x2 x3 x4 x5 : Int) (x6 : Bool) : (bonus_Resultant_T [.i x0, .i x1, .i x2, .i x3, .i x4, .i x5, .b x6]).run = some (0, if chk x0 x1 x2 x3 x4 x5 x6 = 0 then [.i (oth x2 x3 x4 x5 x6), .i 0] else [.i 0, .i (chk x0 x1 x2 x3 x4 x5 x6)]) := by
  rw [bonus_Resultant_eq]
  simp only [run_br, run_leaf, gB, gI, List.getD_cons_zero, PV.toI, if_true, ine_iff, okR_of (p_bonus_Check _ _ _ _ _ _ _), pR_of (p_bonus_Check _ _ _ _ _ _ _)]
  by_cases hc : chk x0 x1 x2 x3 x4 x5 x6 = 0
  · obtain ⟨h1, h2, h3, h4, h5, h6, h7, h8, h9, h10, h11, h12, h13, h14⟩ := chk_zero hc
    have e := p_bonus_of x0 x1 x2 x3 x4 x5 x6 ⟨h13, h14⟩
    simp only [hc, ne_eq, not_true_eq_false, if_false, if_true, okR_of e, pR_of e, List.getD_cons_zero, List.getD_cons_succ, PV.toI, PV.toB, run_br, run_leaf, ine_iff, okR_of (p_bonus_condition_end _ _ _ _ _ _ _ _ _), pR_of (p_bonus_condition_end _ _ _ _ _ _ _ _ _)]
    clear e hc
    have e2 : wsub .i64 x3 x2 = x3 - x2 := wsub_eq (by omega)
    have e3 : wadd .i64 x4 (x3 - x2) = x4 + (x3 - x2) := wadd_eq (by omega)
    have e4 : wadd .i64 x4 0 = x4 + 0 := wadd_eq (by omega)
    unfold oth side
    by_cases hs : (x5 = 2) = (x6 = true)
    · simp only [hs, if_true, e2, e3, e4]
      have s1 : wsub .i64 0 (-1) = 1 := by decide
      rw [s1]
      by_cases h0 : x5 = 0
      · have a1 : wmul .i64 (-1) (x4 + 0) = -1 * (x4 + 0) := wmul_eq (by omega)
        have a2 : wsub .i64 x3 (-1 * (x4 + 0)) = x3 - -1 * (x4 + 0) := wsub_eq (by omega)
        simp only [h0, not_true_eq_false, if_false, if_true, a1, a2, show ¬ (1 : Int) < 0 by decide]
        congr 4; omega
      · have a1 : wmul .i64 (-1) (x4 + (x3 - x2)) = -1 * (x4 + (x3 - x2)) := wmul_eq (by omega)
        have a2 : wsub .i64 x3 (-1 * (x4 + (x3 - x2))) = x3 - -1 * (x4 + (x3 - x2)) := wsub_eq (by omega)
        simp only [h0, not_false_eq_true, if_false, if_true, a1, a2, show ¬ (1 : Int) < 0 by decide]
        congr 4; omega
    · simp only [hs, if_false, e2, e3, e4]
      have s1 : wsub .i64 0 1 = -1 := by decide
      rw [s1]
      by_cases h0 : x5 = 0
      · have a1 : wmul .i64 1 (x4 + 0) = 1 * (x4 + 0) := wmul_eq (by omega)
        have a2 : wsub .i64 x2 (1 * (x4 + 0)) = x2 - 1 * (x4 + 0) := wsub_eq (by omega)
        simp only [h0, not_true_eq_false, if_false, if_true, a1, a2, show (-1 : Int) < 0 by decide]
        congr 4; omega
      · have a1 : wmul .i64 1 (x4 + (x3 - x2)) = 1 * (x4 + (x3 - x2)) := wmul_eq (by omega)
        have a2 : wsub .i64 x2 (1 * (x4 + (x3 - x2))) = x2 - 1 * (x4 + (x3 - x2)) := wsub_eq (by omega)
        simp only [h0, not_false_eq_true, if_false, if_true, a1, a2, show (-1 : Int) < 0 by decide]
        congr 4; omega
  · simp [hc]
end Go.Eng
