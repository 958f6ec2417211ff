import Derived.Test.YtcdlfamincogdaaDoorPBonus5
namespace Go.Eng
theorem sqnn (x : Int) : 0 ≤ x * x := by
  rcases (show 0 ≤ x ∨ 0 ≤ -x by omega) with h | h
  · exact Int.mul_nonneg h h
  · have := Int.mul_nonneg h h
    rwa [Int.neg_mul_neg] at this
theorem sq_le {x y : Int} (hy : 0 ≤ y) (h : x * x ≤ y * y) : x ≤ y ∧ -x ≤ y := by
  constructor
  · rcases (show y < x ∨ x ≤ y by omega) with h1 | h1
    · have := Int.mul_pos (show 0 < x - y by omega) (show 0 < x + y by omega)
      grind
    · exact h1
  · rcases (show y < -x ∨ -x ≤ y by omega) with h1 | h1
    · have := Int.mul_pos (show 0 < -x - y by omega) (show 0 < -x + y by omega)
      grind
    · exact h1
theorem le_sq {x y : Int} (h1 : x ≤ y) (h2 : -x ≤ y) : x * x ≤ y * y := by
  have := Int.mul_nonneg (show 0 ≤ y - x by omega) (show 0 ≤ y + x by omega)
  grind
/-- the triangle's law for whole vectors -/
theorem tri {u w d e c a : Int} (hc : 0 ≤ c) (ha : 0 ≤ a) (h1 : sq2 u w ≤ c * c) (h2 : sq2 d e ≤ a * a) : sq2 (u + d) (w + e) ≤ (c + a) * (c + a) := by
  have hs : u * d + w * e ≤ c * a := by
    have hca : 0 ≤ c * a := Int.mul_nonneg hc ha
    refine (sq_le hca ?_).1
    have q : 0 ≤ sq2 d e := by unfold sq2; have := sqnn d; have := sqnn e; omega
    have k1 : sq2 u w * sq2 d e ≤ (c * c) * sq2 d e := Int.mul_le_mul_of_nonneg_right h1 q
    have k2 : (c * c) * sq2 d e ≤ (c * c) * (a * a) := Int.mul_le_mul_of_nonneg_left h2 (Int.mul_nonneg hc hc)
    have t := sqnn (u * e - w * d)
    have e1 : sq2 u w * sq2 d e = (u * d + w * e) * (u * d + w * e) + (u * e - w * d) * (u * e - w * d) := by unfold sq2; grind
    have e2 : (c * c) * (a * a) = c * a * (c * a) := by grind
    omega
  have e1 : sq2 (u + d) (w + e) = sq2 u w + sq2 d e + 2 * (u * d + w * e) := by unfold sq2; grind
  have e2 : (c + a) * (c + a) = c * c + a * a + 2 * (c * a) := by grind
  omega
theorem sq2_neg (a b c d : Int) : sq2 (a - b) (c - d) = sq2 (b - a) (d - c) := sq2_comm a b c d
theorem wmul2 {x : Int} (h : -1000000000 ≤ x ∧ x ≤ 1000000000) : wmul .i64 2 x = 2 * x := wmul_eq (by omega)
theorem wsq {x B : Int} (h1 : -B ≤ x) (h2 : x ≤ B) (hB : B ≤ 1000000000) : wmul .i64 x x = x * x := by
  have b := mulB h1 h2 h1 h2
  have b2 : B * B ≤ 1000000000 * 1000000000 := by
    have := mulB (a := B) (b := B) (A := 1000000000) (B := 1000000000) (by omega) hB (by omega) hB
    exact this.2
  exact wmul_eq (by omega)
theorem wsq2 {x y B : Int} (h1 : -B ≤ x) (h2 : x ≤ B) (h3 : -B ≤ y) (h4 : y ≤ B) (hB : B ≤ 1000000000) : wadd .i64 (wmul .i64 x x) (wmul .i64 y y) = sq2 x y := by
  rw [wsq h1 h2 hB, wsq h3 h4 hB]
  have b := mulB h1 h2 h1 h2
  have c := mulB h3 h4 h3 h4
  have b2 : B * B ≤ 1000000000 * 1000000000 := (mulB (a := B) (b := B) (A := 1000000000) (B := 1000000000) (by omega) hB (by omega) hB).2
  exact wadd_eq (by omega)
end Go.Eng
