import Derived.Test.YtoemfkkeojmgkaaDoorPBonus7
namespace Go.Eng
section
variable {x0 x1 x2 x3 x4 x5 y4 : Int} {x6 : Bool} {a b c : Int}
theorem keep_iff : keep2 x0 x1 x2 x3 x4 x5 x6 a b c = true ↔ (x2 ≤ c ∧ c ≤ x3 ∧ 4 * sq2 (a - x0) (b - x1) ≤ (x4 + ext x2 x3 x5 x6 c) * (x4 + ext x2 x3 x5 x6 c)) := by unfold keep2; exact decide_eq_true_iff
theorem box_iff : box2 x0 x1 x2 x3 x4 x5 x6 a b c = true ↔ (x2 ≤ c ∧ c ≤ x3 ∧ 2 * (a - x0) ≤ x4 + ext x2 x3 x5 x6 c ∧ -(2 * (a - x0)) ≤ x4 + ext x2 x3 x5 x6 c ∧ 2 * (b - x1) ≤ x4 + ext x2 x3 x5 x6 c ∧ -(2 * (b - x1)) ≤ x4 + ext x2 x3 x5 x6 c) := by unfold box2; exact decide_eq_true_iff
theorem keep_box (h4 : 0 ≤ x4) (h : keep2 x0 x1 x2 x3 x4 x5 x6 a b c = true) : box2 x0 x1 x2 x3 x4 x5 x6 a b c = true := by
  rw [keep_iff] at h
  rw [box_iff]
  obtain ⟨h1, h2, h3⟩ := h
  have q := ext_nonneg (x5 := x5) (x6 := x6) ⟨h1, h2⟩
  have p1 := sqnn (a - x0)
  have p2 := sqnn (b - x1)
  unfold sq2 at h3
  have s1 := sq_le (x := 2 * (a - x0)) (y := x4 + ext x2 x3 x5 x6 c) (by omega) (by rw [show 2 * (a - x0) * (2 * (a - x0)) = 4 * ((a - x0) * (a - x0)) by grind]; omega)
  have s2 := sq_le (x := 2 * (b - x1)) (y := x4 + ext x2 x3 x5 x6 c) (by omega) (by rw [show 2 * (b - x1) * (2 * (b - x1)) = 4 * ((b - x1) * (b - x1)) by grind]; omega)
  exact ⟨h1, h2, s1.1, s1.2, s2.1, s2.2⟩
theorem keep_more (h4 : 0 ≤ x4) (hy : x4 ≤ y4) (h : keep2 x0 x1 x2 x3 x4 x5 x6 a b c = true) : keep2 x0 x1 x2 x3 y4 x5 x6 a b c = true := by
  rw [keep_iff] at *
  obtain ⟨h1, h2, h3⟩ := h
  have q := ext_nonneg (x5 := x5) (x6 := x6) ⟨h1, h2⟩
  have := le_sq (x := x4 + ext x2 x3 x5 x6 c) (y := y4 + ext x2 x3 x5 x6 c) (by omega) (by omega)
  exact ⟨h1, h2, by omega⟩
theorem box_more (hy : x4 ≤ y4) (h : box2 x0 x1 x2 x3 x4 x5 x6 a b c = true) : box2 x0 x1 x2 x3 y4 x5 x6 a b c = true := by
  rw [box_iff] at *
  obtain ⟨h1, h2, h3, h5, h6, h7⟩ := h
  exact ⟨h1, h2, by omega, by omega, by omega, by omega⟩
theorem box_half (h4 : 0 ≤ x4) (hy : 2 * y4 ≥ 2 * x4 + (x4 + ext x2 x3 x5 x6 c)) (h : box2 x0 x1 x2 x3 x4 x5 x6 a b c = true) : keep2 x0 x1 x2 x3 y4 x5 x6 a b c = true := by
  rw [box_iff] at h
  rw [keep_iff]
  obtain ⟨h1, h2, h3, h5, h6, h7⟩ := h
  have q := ext_nonneg (x5 := x5) (x6 := x6) ⟨h1, h2⟩
  refine ⟨h1, h2, ?_⟩
  generalize ext x2 x3 x5 x6 c = e at *
  have s1 := le_sq h3 h5
  have s2 := le_sq h6 h7
  have s3 := le_sq (x := 3 * (x4 + e)) (y := 2 * (y4 + e)) (by omega) (by omega)
  have t1 : 3 * (x4 + e) * (3 * (x4 + e)) = 9 * ((x4 + e) * (x4 + e)) := by grind
  have t2 : 2 * (y4 + e) * (2 * (y4 + e)) = 4 * ((y4 + e) * (y4 + e)) := by grind
  have t3 : 2 * (a - x0) * (2 * (a - x0)) = 4 * ((a - x0) * (a - x0)) := by grind
  have t4 : 2 * (b - x1) * (2 * (b - x1)) = 4 * ((b - x1) * (b - x1)) := by grind
  have t5 := sqnn (x4 + e)
  unfold sq2
  omega
end
theorem plainBonusBoxes (x0 : Int) (x1 : Int) (x2 : Int) (x3 : Int) (x4 : Int) (x5 : Int) (x6 : Bool) (x7 : Int) (x8 : Int) (x9 : Int) (x10 : Int) (lox0 : IntKind.min .i64 ≤ x0) (hix0 : x0 ≤ IntKind.max .i64) (lox1 : IntKind.min .i64 ≤ x1) (hix1 : x1 ≤ IntKind.max .i64) (lox2 : IntKind.min .i64 ≤ x2) (hix2 : x2 ≤ IntKind.max .i64) (lox3 : IntKind.min .i64 ≤ x3) (hix3 : x3 ≤ IntKind.max .i64) (lox4 : IntKind.min .i64 ≤ x4) (hix4 : x4 ≤ IntKind.max .i64) (lox5 : IntKind.min .i64 ≤ x5) (hix5 : x5 ≤ IntKind.max .i64) (lox7 : IntKind.min .i64 ≤ x7) (hix7 : x7 ≤ IntKind.max .i64) (lox8 : IntKind.min .i64 ≤ x8) (hix8 : x8 ≤ IntKind.max .i64) (lox9 : IntKind.min .i64 ≤ x9) (hix9 : x9 ≤ IntKind.max .i64) (lox10 : IntKind.min .u8 ≤ x10) (hix10 : x10 ≤ IntKind.max .u8) : (law44_BonusBoxes_T [.i x0, .i x1, .i x2, .i x3, .i x4, .i x5, .b x6, .i x7, .i x8, .i x9, .i x10]).run = some (0, [.b true]) := by
  rw [law44_BonusBoxes_eq]
  by_cases hc : chk x0 x1 x2 x3 x4 x5 x6 = 0
  · by_cases hr : ringC x7 x8 x9 = 0
    · obtain ⟨h1, h2, h3, h4, h5, h6, h7, h8, h9, h10, h11, h12, h13, h14⟩ := chk_zero hc
      obtain ⟨k1, k2, k3, k4, k5, k6⟩ := ringC_zero hr
      have l10 : 0 ≤ x10 := lox10
      have u10 : x10 ≤ 255 := hix10
      have e1 : wconv .i64 x10 = x10 := wconv_eq (by omega)
      have e2 : wadd .i64 x4 x10 = x4 + x10 := wadd_eq (by omega)
      have hb0 : bothC x0 x1 x2 x3 x4 x5 x6 x7 x8 x9 = 0 := by unfold bothC; rw [if_pos hc]; exact hr
      have a1 : wadd .i64 0 0 = 0 := by decide
      simp only [STD, p_ref44_Check, p_ref44_Ring, p_law44_awake, p_bonus_Keeps, p_bonus_KeepsBox, p_bonus_Allowed, hc, hr, e1, e2, keepL, boxL, hb0, a1]
      have hbw : chk x0 x1 x2 x3 (x4 + x10) x5 x6 = 0 → bothC x0 x1 x2 x3 (x4 + x10) x5 x6 x7 x8 x9 = 0 := fun h => by unfold bothC; rw [if_pos h]; exact hr
      cases hb : box2 x0 x1 x2 x3 x4 x5 x6 x7 x8 x9 with
      | false =>
        have hk : keep2 x0 x1 x2 x3 x4 x5 x6 x7 x8 x9 = false := by
          cases hk : keep2 x0 x1 x2 x3 x4 x5 x6 x7 x8 x9 with
          | false => rfl
          | true => rw [keep_box h10 hk] at hb; cases hb
        by_cases hw : chk x0 x1 x2 x3 (x4 + x10) x5 x6 = 0
        · simp only [STD, hk, hw, hbw hw, a1, Bool.false_eq_true]
        · simp only [STD, hk, hw, Bool.false_eq_true]
      | true =>
        have hw12 : x2 ≤ x9 ∧ x9 ≤ x3 := by rw [box_iff] at hb; exact ⟨hb.1, hb.2.1⟩
        have q0 := ext_nonneg (x5 := x5) (x6 := x6) hw12
        have q1 := ext_bound (x5 := x5) (x6 := x6) (n := x9) ⟨h5, h6, h7, h8⟩ ⟨k5, k6⟩
        have e3 : wadd .i64 (x4 + ext x2 x3 x5 x6 x9) 1 = x4 + ext x2 x3 x5 x6 x9 + 1 := wadd_eq (by omega)
        have e4 : wquo .i64 (x4 + ext x2 x3 x5 x6 x9 + 1) 2 = (x4 + ext x2 x3 x5 x6 x9 + 1) / 2 := by
          unfold wquo IntKind.wrap
          rw [Int.tdiv_eq_ediv_of_nonneg (by omega)]
          simp [IntKind.signed, IntKind.bits]; omega
        have e5 : wadd .i64 x4 ((x4 + ext x2 x3 x5 x6 x9 + 1) / 2) = x4 + (x4 + ext x2 x3 x5 x6 x9 + 1) / 2 := wadd_eq (by omega)
        have hal : allowedL x0 x1 x2 x3 x4 x5 x6 x9 = [.i (x4 + ext x2 x3 x5 x6 x9), .i 0] := by unfold allowedL; rw [if_pos hc, if_pos hw12]
        simp only [hal, STD, e3, e4, e5]
        have hkh : keep2 x0 x1 x2 x3 (x4 + (x4 + ext x2 x3 x5 x6 x9 + 1) / 2) x5 x6 x7 x8 x9 = true := box_half h10 (by omega) hb
        have hbh : chk x0 x1 x2 x3 (x4 + (x4 + ext x2 x3 x5 x6 x9 + 1) / 2) x5 x6 = 0 → bothC x0 x1 x2 x3 (x4 + (x4 + ext x2 x3 x5 x6 x9 + 1) / 2) x5 x6 x7 x8 x9 = 0 := fun h => by unfold bothC; rw [if_pos h]; exact hr
        have hbx : box2 x0 x1 x2 x3 (x4 + x10) x5 x6 x7 x8 x9 = true := box_more (by omega) hb
        cases hk : keep2 x0 x1 x2 x3 x4 x5 x6 x7 x8 x9 with
        | false =>
          by_cases hw : chk x0 x1 x2 x3 (x4 + x10) x5 x6 = 0 <;> by_cases hh : chk x0 x1 x2 x3 (x4 + (x4 + ext x2 x3 x5 x6 x9 + 1) / 2) x5 x6 = 0 <;>
            simp only [STD, hw, hh, Bool.false_eq_true, hbx, a1, hkh] <;> simp only [STD, hbw, hbh, hw, hh, hkh, hbx, a1]
        | true =>
          have hkx : keep2 x0 x1 x2 x3 (x4 + x10) x5 x6 x7 x8 x9 = true := keep_more h10 (by omega) hk
          by_cases hw : chk x0 x1 x2 x3 (x4 + x10) x5 x6 = 0 <;> by_cases hh : chk x0 x1 x2 x3 (x4 + (x4 + ext x2 x3 x5 x6 x9 + 1) / 2) x5 x6 = 0 <;>
            simp only [STD, hw, hh, Bool.false_eq_true, hbx, hkx, a1, hkh] <;> simp only [STD, hbw, hbh, hw, hh, hkh, hbx, hkx, a1]
    · simp only [STD, p_ref44_Check, p_ref44_Ring, p_law44_awake, hc, hr]
  · simp only [STD, p_ref44_Check, p_law44_awake, hc]
end Go.Eng
