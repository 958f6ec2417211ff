import Derived.Test.YtoemfkkeojmgkaaDoorPBonus6
namespace Go.Eng
theorem sqnn (x : Int) : 0 ≤ x * x := by
  rcases (show 0 ≤ x ∨ 0 ≤ -x by omega) with h | h
  · exact Int.mul_nonneg h h
  · have := Int.mul_nonneg h h
    rwa [Int.neg_mul_neg] at this
theorem sq_le {x y : Int} (hy : 0 ≤ y) (h : x * x ≤ y * y) : x ≤ y ∧ -x ≤ y := by
  constructor
  · rcases (show y < x ∨ x ≤ y by omega) with h1 | h1
    · have := Int.mul_pos (show 0 < x - y by omega) (show 0 < x + y by omega)
      grind
    · exact h1
  · rcases (show y < -x ∨ -x ≤ y by omega) with h1 | h1
    · have := Int.mul_pos (show 0 < -x - y by omega) (show 0 < -x + y by omega)
      grind
    · exact h1
theorem le_sq {x y : Int} (h1 : x ≤ y) (h2 : -x ≤ y) : x * x ≤ y * y := by
  have := Int.mul_nonneg (show 0 ≤ y - x by omega) (show 0 ≤ y + x by omega)
  grind
/-- the triangle's law for whole vectors -/
theorem tri {u w d e c a : Int} (hc : 0 ≤ c) (ha : 0 ≤ a) (h1 : sq2 u w ≤ c * c) (h2 : sq2 d e ≤ a * a) : sq2 (u + d) (w + e) ≤ (c + a) * (c + a) := by
  have hs : u * d + w * e ≤ c * a := by
    have hca : 0 ≤ c * a := Int.mul_nonneg hc ha
    refine (sq_le hca ?_).1
    have q : 0 ≤ sq2 d e := by unfold sq2; have := sqnn d; have := sqnn e; omega
    have k1 : sq2 u w * sq2 d e ≤ (c * c) * sq2 d e := Int.mul_le_mul_of_nonneg_right h1 q
    have k2 : (c * c) * sq2 d e ≤ (c * c) * (a * a) := Int.mul_le_mul_of_nonneg_left h2 (Int.mul_nonneg hc hc)
    have t := sqnn (u * e - w * d)
    have e1 : sq2 u w * sq2 d e = (u * d + w * e) * (u * d + w * e) + (u * e - w * d) * (u * e - w * d) := by unfold sq2; grind
    have e2 : (c * c) * (a * a) = c * a * (c * a) := by grind
    omega
  have e1 : sq2 (u + d) (w + e) = sq2 u w + sq2 d e + 2 * (u * d + w * e) := by unfold sq2; grind
  have e2 : (c + a) * (c + a) = c * c + a * a + 2 * (c * a) := by grind
  omega
theorem ext_nonneg {x2 x3 x5 : Int} {x6 : Bool} {n : Int} (h : x2 ≤ n ∧ n ≤ x3) : 0 ≤ ext x2 x3 x5 x6 n := by
  unfold ext; split
  · omega
  · split <;> omega
theorem sq2_neg (a b c d : Int) : sq2 (a - b) (c - d) = sq2 (b - a) (d - c) := sq2_comm a b c d
theorem wmul2 {x : Int} (h : -1000000000 ≤ x ∧ x ≤ 1000000000) : wmul .i64 2 x = 2 * x := wmul_eq (by omega)
theorem wsq {x B : Int} (h1 : -B ≤ x) (h2 : x ≤ B) (hB : B ≤ 1000000000) : wmul .i64 x x = x * x := by
  have b := mulB h1 h2 h1 h2
  have b2 : B * B ≤ 1000000000 * 1000000000 := by
    have := mulB (a := B) (b := B) (A := 1000000000) (B := 1000000000) (by omega) hB (by omega) hB
    exact this.2
  exact wmul_eq (by omega)
theorem wsq2 {x y B : Int} (h1 : -B ≤ x) (h2 : x ≤ B) (h3 : -B ≤ y) (h4 : y ≤ B) (hB : B ≤ 1000000000) : wadd .i64 (wmul .i64 x x) (wmul .i64 y y) = sq2 x y := by
  rw [wsq h1 h2 hB, wsq h3 h4 hB]
  have b := mulB h1 h2 h1 h2
  have c := mulB h3 h4 h3 h4
  have b2 : B * B ≤ 1000000000 * 1000000000 := (mulB (a := B) (b := B) (A := 1000000000) (B := 1000000000) (by omega) hB (by omega) hB).2
  exact wadd_eq (by omega)
theorem plainBonusGauges (x0 : Int) (x1 : Int) (x2 : Int) (x3 : Int) (x4 : Int) (x5 : Int) (x6 : Bool) (x7 : Int) (x8 : Int) (x9 : Int) (x10 : Int) (x11 : Int) (lox0 : IntKind.min .i64 ≤ x0) (hix0 : x0 ≤ IntKind.max .i64) (lox1 : IntKind.min .i64 ≤ x1) (hix1 : x1 ≤ IntKind.max .i64) (lox2 : IntKind.min .i64 ≤ x2) (hix2 : x2 ≤ IntKind.max .i64) (lox3 : IntKind.min .i64 ≤ x3) (hix3 : x3 ≤ IntKind.max .i64) (lox4 : IntKind.min .i64 ≤ x4) (hix4 : x4 ≤ IntKind.max .i64) (lox5 : IntKind.min .i64 ≤ x5) (hix5 : x5 ≤ IntKind.max .i64) (lox7 : IntKind.min .i64 ≤ x7) (hix7 : x7 ≤ IntKind.max .i64) (lox8 : IntKind.min .i64 ≤ x8) (hix8 : x8 ≤ IntKind.max .i64) (lox9 : IntKind.min .i64 ≤ x9) (hix9 : x9 ≤ IntKind.max .i64) (lox10 : IntKind.min .i16 ≤ x10) (hix10 : x10 ≤ IntKind.max .i16) (lox11 : IntKind.min .i16 ≤ x11) (hix11 : x11 ≤ IntKind.max .i16) : (law44_BonusGauges_T [.i x0, .i x1, .i x2, .i x3, .i x4, .i x5, .b x6, .i x7, .i x8, .i x9, .i x10, .i x11]).run = some (0, [.b true]) := by
  rw [law44_BonusGauges_eq]
  simp only [STD, p_ref44_Check, p_ref44_Ring, p_law44_awake, p_bonus_Keeps, p_bonus_Virtual]
  by_cases hc : chk x0 x1 x2 x3 x4 1 x6 = 0
  · by_cases hr : ringC x7 x8 x9 = 0
    · obtain ⟨h1, h2, h3, h4, h5, h6, h7, h8, h9, h10, h11, h12, h13, h14⟩ := chk_zero hc
      obtain ⟨k1, k2, k3, k4, k5, k6⟩ := ringC_zero hr
      have l10 : -32768 ≤ x10 := lox10
      have u10 : x10 ≤ 32767 := hix10
      have l11 : -32768 ≤ x11 := lox11
      have u11 : x11 ≤ 32767 := hix11
      have e1 : wconv .i64 x10 = x10 := wconv_eq (by omega)
      have e2 : wconv .i64 x11 = x11 := wconv_eq (by omega)
      have e3 : wmul .i64 2 x10 = 2 * x10 := wmul2 (by omega)
      have e4 : wmul .i64 2 x11 = 2 * x11 := wmul2 (by omega)
      have e5 : wsub .i64 x7 x0 = x7 - x0 := wsub_eq (by omega)
      have e6 : wsub .i64 x8 x1 = x8 - x1 := wsub_eq (by omega)
      have e7 : wmul .i64 2 (x7 - x0) = 2 * (x7 - x0) := wmul2 (by omega)
      have e8 : wmul .i64 2 (x8 - x1) = 2 * (x8 - x1) := wmul2 (by omega)
      have e9 : wsub .i64 (2 * x10) (2 * (x7 - x0)) = 2 * x10 - 2 * (x7 - x0) := wsub_eq (by omega)
      have e10 : wsub .i64 (2 * x11) (2 * (x8 - x1)) = 2 * x11 - 2 * (x8 - x1) := wsub_eq (by omega)
      have e11 : wadd .i64 (wmul .i64 (2 * x10 - 2 * (x7 - x0)) (2 * x10 - 2 * (x7 - x0))) (wmul .i64 (2 * x11 - 2 * (x8 - x1)) (2 * x11 - 2 * (x8 - x1))) = sq2 (2 * x10 - 2 * (x7 - x0)) (2 * x11 - 2 * (x8 - x1)) :=
        wsq2 (B := 1000000) (by omega) (by omega) (by omega) (by omega) (by omega)
      have e12 : wadd .i64 (wmul .i64 (2 * x10) (2 * x10)) (wmul .i64 (2 * x11) (2 * x11)) = sq2 (2 * x10) (2 * x11) := wsq2 (B := 1000000) (by omega) (by omega) (by omega) (by omega) (by omega)
      have e13 : wmul .i64 x9 x9 = x9 * x9 := wsq (B := 1000000) (by omega) (by omega) (by omega)
      have a1 : wadd .i64 0 0 = 0 := by decide
      have hb : bothC x0 x1 x2 x3 x4 1 x6 x7 x8 x9 = 0 := by unfold bothC; rw [if_pos hc]; exact hr
      simp only [hc, hr, hb, keepL, a1, STD, e1, e2, e3, e4, e5, e6, e7, e8, e9, e10, e11, e12, e13]
      by_cases hk : keep2 x0 x1 x2 x3 x4 1 x6 x7 x8 x9 = true
      · unfold keep2 at hk
        rw [decide_eq_true_eq] at hk
        obtain ⟨q1, q2, q3⟩ := hk
        have q0 := ext_nonneg (x5 := 1) (x6 := x6) ⟨q1, q2⟩
        have ed : sq2 (2 * (x7 - x0)) (2 * (x8 - x1)) = 4 * sq2 (x7 - x0) (x8 - x1) := by unfold sq2; grind
        have en : sq2 (-(2 * (x7 - x0))) (-(2 * (x8 - x1))) = 4 * sq2 (x7 - x0) (x8 - x1) := by unfold sq2; grind
        simp only [keep2, q1, q2, q3, and_self, decide_true, STD]
        cases x6 with
        | true =>
          simp only [ext, show ¬ ((1 : Int) = 0) by decide, show ((1 : Int) = 1) = (true = true) by simp, if_true, if_false] at q0 q3
          simp only [show ¬ ((1 : Int) = 2) by decide, STD, eq_self_iff_true, Bool.true_eq_false, eq_iff_iff, iff_true]
          have e14 : wmul .i64 (x3 + x4) (x3 + x4) = (x3 + x4) * (x3 + x4) := wsq (B := 1000000) (by omega) (by omega) (by omega)
          rw [e14]
          by_cases hu : sq2 (2 * x10 - 2 * (x7 - x0)) (2 * x11 - 2 * (x8 - x1)) ≤ x9 * x9
          · have t := tri (by omega) (show 0 ≤ x4 + (x3 - x9) by omega) hu (by rw [ed]; exact q3)
            rw [show 2 * x10 - 2 * (x7 - x0) + 2 * (x7 - x0) = 2 * x10 by omega, show 2 * x11 - 2 * (x8 - x1) + 2 * (x8 - x1) = 2 * x11 by omega, show x9 + (x4 + (x3 - x9)) = x3 + x4 by omega] at t
            rw [if_pos hu, if_neg (by omega)]
          · rw [if_neg hu]
        | false =>
          simp only [ext, show ¬ ((1 : Int) = 0) by decide, show ¬ (((1 : Int) = 1) = (false = true)) by simp, if_false] at q0 q3
          have h12' := h12 rfl
          simp only [show ¬ ((1 : Int) = 2) by decide, STD, eq_self_iff_true, Bool.false_eq_true, if_true]
          have e14 : wmul .i64 (x2 - x4) (x2 - x4) = (x2 - x4) * (x2 - x4) := wsq (B := 1000000) (by omega) (by omega) (by omega)
          rw [e14]
          by_cases hu : sq2 (2 * x10) (2 * x11) ≤ (x2 - x4) * (x2 - x4)
          · have t := tri (show 0 ≤ x2 - x4 by omega) (show 0 ≤ x4 + (x9 - x2) by omega) hu (by rw [en]; exact q3)
            rw [show 2 * x10 + -(2 * (x7 - x0)) = 2 * x10 - 2 * (x7 - x0) by omega, show 2 * x11 + -(2 * (x8 - x1)) = 2 * x11 - 2 * (x8 - x1) by omega, show x2 - x4 + (x4 + (x9 - x2)) = x9 by omega] at t
            rw [if_pos hu, if_neg (by omega)]
          · rw [if_neg hu]
      · simp [hk]
    · simp [hc, hr]
  · simp [hc]
end Go.Eng
