import Derived.Test.YtoemfkkeojmgkaaDoorPBonus5
import Derived.Test.YtoemfkkeojmgkaaDoorPBonusX
namespace Go.Eng
theorem plainBonusChecks (x0 : Int) (x1 : Int) (x2 : Int) (x3 : Int) (x4 : Int) (x5 : Int) (x6 : Bool) (lox0 : IntKind.min .i64 ≤ x0) (hix0 : x0 ≤ IntKind.max .i64) (lox1 : IntKind.min .i64 ≤ x1) (hix1 : x1 ≤ IntKind.max .i64) (lox2 : IntKind.min .i64 ≤ x2) (hix2 : x2 ≤ IntKind.max .i64) (lox3 : IntKind.min .i64 ≤ x3) (hix3 : x3 ≤ IntKind.max .i64) (lox4 : IntKind.min .i64 ≤ x4) (hix4 : x4 ≤ IntKind.max .i64) (lox5 : IntKind.min .i64 ≤ x5) (hix5 : x5 ≤ IntKind.max .i64) : (law44_BonusChecks_T [.i x0, .i x1, .i x2, .i x3, .i x4, .i x5, .b x6]).run = some (0, [.b true]) := by
  rw [law44_BonusChecks_eq]
  simp only [STD, p_bonus_Virtual, p_ref44_Virtual, p_bonus_Resultant, p_ref44_Resultant, p_bonus_Check, p_ref44_Check, p_law44_awake]
theorem plainBonusSizes (x0 : Int) (x1 : Int) (x2 : Int) (x3 : Int) (x4 : Int) (x5 : Int) (x6 : Bool) (x7 : Int) (lox0 : IntKind.min .i64 ≤ x0) (hix0 : x0 ≤ IntKind.max .i64) (lox1 : IntKind.min .i64 ≤ x1) (hix1 : x1 ≤ IntKind.max .i64) (lox2 : IntKind.min .i64 ≤ x2) (hix2 : x2 ≤ IntKind.max .i64) (lox3 : IntKind.min .i64 ≤ x3) (hix3 : x3 ≤ IntKind.max .i64) (lox4 : IntKind.min .i64 ≤ x4) (hix4 : x4 ≤ IntKind.max .i64) (lox5 : IntKind.min .i64 ≤ x5) (hix5 : x5 ≤ IntKind.max .i64) (lox7 : IntKind.min .i64 ≤ x7) (hix7 : x7 ≤ IntKind.max .i64) : (law44_BonusSizes_T [.i x0, .i x1, .i x2, .i x3, .i x4, .i x5, .b x6, .i x7]).run = some (0, [.b true]) := by
  rw [law44_BonusSizes_eq]
  simp only [STD, p_bonus_Bonus, p_ref44_Bonus, p_bonus_Allowed, p_ref44_Allowed, p_law44_awake]
theorem wrem_range {x w : Int} (h : 0 ≤ x) (hw : 0 < w) : 0 ≤ wrem x w ∧ wrem x w < w := ⟨Int.tmod_nonneg _ h, Int.tmod_lt_of_pos _ hw⟩
theorem plainBonusMeets (x0 : Int) (x1 : Int) (x2 : Int) (x3 : Int) (x4 : Int) (x5 : Int) (x6 : Bool) (x7 : Int) (lox0 : IntKind.min .i64 ≤ x0) (hix0 : x0 ≤ IntKind.max .i64) (lox1 : IntKind.min .i64 ≤ x1) (hix1 : x1 ≤ IntKind.max .i64) (lox2 : IntKind.min .i64 ≤ x2) (hix2 : x2 ≤ IntKind.max .i64) (lox3 : IntKind.min .i64 ≤ x3) (hix3 : x3 ≤ IntKind.max .i64) (lox4 : IntKind.min .i64 ≤ x4) (hix4 : x4 ≤ IntKind.max .i64) (lox5 : IntKind.min .i64 ≤ x5) (hix5 : x5 ≤ IntKind.max .i64) (lox7 : IntKind.min .u16 ≤ x7) (hix7 : x7 ≤ IntKind.max .u16) : (law44_BonusMeets_T [.i x0, .i x1, .i x2, .i x3, .i x4, .i x5, .b x6, .i x7]).run = some (0, [.b true]) := by
  rw [law44_BonusMeets_eq]
  simp only [STD, p_ref44_Check, p_law44_awake]
  by_cases hc : chk x0 x1 x2 x3 x4 x5 x6 = 0
  · obtain ⟨h1, h2, h3, h4, h5, h6, h7, h8, h9, h10, h11, h12, h13, h14⟩ := chk_zero hc
    have l7 : 0 ≤ x7 := lox7
    have u7 : x7 ≤ 65535 := hix7
    by_cases h0 : x5 = 0
    · subst h0; simp only [hc, STD]
    · have e1 : wsub .i64 x3 x2 = x3 - x2 := wsub_eq (by omega)
      have e2 : wadd .i64 (x3 - x2) 1 = x3 - x2 + 1 := wadd_eq (by omega)
      have e3 : wconv .i64 x7 = x7 := wconv_eq (by omega)
      obtain ⟨r1, r2⟩ := wrem_range (x := x7) (w := x3 - x2 + 1) l7 (by omega)
      have e4 : wadd .i64 x2 (wrem x7 (x3 - x2 + 1)) = x2 + wrem x7 (x3 - x2 + 1) := wadd_eq (by omega)
      have hne : ¬ (x3 - x2 + 1 = 0) := by omega
      simp only [hc, h0, hne, e1, e2, e3, e4, STD, p_bonus_Allowed, p_bonus_Virtual]
      generalize wrem x7 (x3 - x2 + 1) = n at *
      have hw : x2 ≤ x2 + n ∧ x2 + n ≤ x3 := by omega
      have hb := ext_bound (x5 := x5) (x6 := x6) (n := x2 + n) ⟨h5, h6, h7, h8⟩ ⟨by omega, by omega⟩
      have a1 : wadd .i64 0 0 = 0 := by decide
      have a2 : wsub .i64 (x2 + n) (x4 + ext x2 x3 x5 x6 (x2 + n)) = x2 + n - (x4 + ext x2 x3 x5 x6 (x2 + n)) := wsub_eq (by omega)
      have a3 : wadd .i64 (x2 + n) (x4 + ext x2 x3 x5 x6 (x2 + n)) = x2 + n + (x4 + ext x2 x3 x5 x6 (x2 + n)) := wadd_eq (by omega)
      simp only [allowedL, hc, hw, and_self, if_true, STD, a1, a2, a3]
      unfold ext
      have h12 : x5 = 1 ∨ x5 = 2 := by omega
      rcases h12 with rfl | rfl <;> cases x6 <;> simp [ieq] <;> (repeat' split) <;> first | rfl | omega
  · simp [hc]
theorem plainBonusGrows (x0 : Int) (x1 : Int) (x2 : Int) (x3 : Int) (x4 : Int) (x5 : Int) (x6 : Bool) (x7 : Int) (lox0 : IntKind.min .i64 ≤ x0) (hix0 : x0 ≤ IntKind.max .i64) (lox1 : IntKind.min .i64 ≤ x1) (hix1 : x1 ≤ IntKind.max .i64) (lox2 : IntKind.min .i64 ≤ x2) (hix2 : x2 ≤ IntKind.max .i64) (lox3 : IntKind.min .i64 ≤ x3) (hix3 : x3 ≤ IntKind.max .i64) (lox4 : IntKind.min .i64 ≤ x4) (hix4 : x4 ≤ IntKind.max .i64) (lox5 : IntKind.min .i64 ≤ x5) (hix5 : x5 ≤ IntKind.max .i64) (lox7 : IntKind.min .u16 ≤ x7) (hix7 : x7 ≤ IntKind.max .u16) : (law44_BonusGrows_T [.i x0, .i x1, .i x2, .i x3, .i x4, .i x5, .b x6, .i x7]).run = some (0, [.b true]) := by
  rw [law44_BonusGrows_eq]
  simp only [STD, p_ref44_Check, p_law44_awake, p_bonus_Bonus]
  by_cases hc : chk x0 x1 x2 x3 x4 x5 x6 = 0
  · obtain ⟨h1, h2, h3, h4, h5, h6, h7, h8, h9, h10, h11, h12, h13, h14⟩ := chk_zero hc
    have l7 : 0 ≤ x7 := lox7
    have u7 : x7 ≤ 65535 := hix7
    have e1 : wsub .i64 x3 x2 = x3 - x2 := wsub_eq (by omega)
    have e2 : wadd .i64 (x3 - x2) 1 = x3 - x2 + 1 := wadd_eq (by omega)
    have e3 : wconv .i64 x7 = x7 := wconv_eq (by omega)
    obtain ⟨r1, r2⟩ := wrem_range (x := x7) (w := x3 - x2 + 1) l7 (by omega)
    have e4 : wadd .i64 x2 (wrem x7 (x3 - x2 + 1)) = x2 + wrem x7 (x3 - x2 + 1) := wadd_eq (by omega)
    have hne : ¬ (x3 - x2 + 1 = 0) := by omega
    simp only [hc, hne, e1, e2, e3, e4, STD]
    generalize wrem x7 (x3 - x2 + 1) = n at *
    have hw : x2 ≤ x2 + n ∧ x2 + n ≤ x3 := by omega
    have hw2 : x2 ≤ x2 ∧ x2 ≤ x3 := by omega
    have hw3 : x2 ≤ x3 ∧ x3 ≤ x3 := by omega
    have b1 := ext_bound (x5 := x5) (x6 := x6) (n := x2 + n) ⟨h5, h6, h7, h8⟩ ⟨by omega, by omega⟩
    have b2 := ext_bound (x5 := x5) (x6 := x6) (n := x2) ⟨h5, h6, h7, h8⟩ ⟨by omega, by omega⟩
    have b3 := ext_bound (x5 := x5) (x6 := x6) (n := x3) ⟨h5, h6, h7, h8⟩ ⟨by omega, by omega⟩
    have a1 : wadd .i64 0 0 = 0 := by decide
    have a2 : wadd .i64 (ext x2 x3 x5 x6 x2) (ext x2 x3 x5 x6 x3) = ext x2 x3 x5 x6 x2 + ext x2 x3 x5 x6 x3 := wadd_eq (by omega)
    have a3 : wsub .i64 (x2 + n) x2 = n := by rw [wsub_eq (by omega)]; omega
    have a4 : wsub .i64 (ext x2 x3 x5 x6 x2) n = ext x2 x3 x5 x6 x2 - n := wsub_eq (by omega)
    have a5 : wsub .i64 n (ext x2 x3 x5 x6 x2) = n - ext x2 x3 x5 x6 x2 := wsub_eq (by omega)
    simp only [bonusL, hc, hw, hw2, hw3, and_self, if_true, STD, a1, a2, a3, a4, a5]
    have h012 : x5 = 0 ∨ x5 = 1 ∨ x5 = 2 := by omega
    clear a2 a3 a4 a5 b1 b2 b3
    rcases h012 with rfl | rfl | rfl <;> cases x6 <;> simp only [ext, imax, imin] <;> simp <;> (repeat' split) <;> first | rfl | omega
  · simp [hc]
theorem plainBonusKeeps (x0 : Int) (x1 : Int) (x2 : Int) (x3 : Int) (x4 : Int) (x5 : Int) (x6 : Bool) (x7 : Int) (x8 : Int) (x9 : Int) (lox0 : IntKind.min .i64 ≤ x0) (hix0 : x0 ≤ IntKind.max .i64) (lox1 : IntKind.min .i64 ≤ x1) (hix1 : x1 ≤ IntKind.max .i64) (lox2 : IntKind.min .i64 ≤ x2) (hix2 : x2 ≤ IntKind.max .i64) (lox3 : IntKind.min .i64 ≤ x3) (hix3 : x3 ≤ IntKind.max .i64) (lox4 : IntKind.min .i64 ≤ x4) (hix4 : x4 ≤ IntKind.max .i64) (lox5 : IntKind.min .i64 ≤ x5) (hix5 : x5 ≤ IntKind.max .i64) (lox7 : IntKind.min .i64 ≤ x7) (hix7 : x7 ≤ IntKind.max .i64) (lox8 : IntKind.min .i64 ≤ x8) (hix8 : x8 ≤ IntKind.max .i64) (lox9 : IntKind.min .i64 ≤ x9) (hix9 : x9 ≤ IntKind.max .i64) : (law44_BonusKeeps_T [.i x0, .i x1, .i x2, .i x3, .i x4, .i x5, .b x6, .i x7, .i x8, .i x9]).run = some (0, [.b true]) := by
  rw [law44_BonusKeeps_eq]
  simp only [STD, p_bonus_Distance, p_ref44_Distance, p_bonus_Keeps, p_ref44_Keeps, p_bonus_KeepsBox, p_ref44_KeepsBox, p_law44_awake]
end Go.Eng
