import Derived.Test.YtcdlfamincogdaaDoorPBonus4
namespace Go.Eng
def ringC (a b c : Int) : Int := if -100000 ≤ a ∧ a ≤ 100000 ∧ -100000 ≤ b ∧ b ≤ 100000 ∧ 1 ≤ c ∧ c ≤ 100000 then 0 else 2
theorem ringC_zero {a b c : Int} (h : ringC a b c = 0) : -100000 ≤ a ∧ a ≤ 100000 ∧ -100000 ≤ b ∧ b ≤ 100000 ∧ 1 ≤ c ∧ c ≤ 100000 := by
  unfold ringC at h; split at h
  · assumption
  · omega
theorem p_bonus_ring (a b c : Int) : (bonus_ring_T [.i a, .i b, .i c]).run = some (0, [.i (ringC a b c)]) := by
  rw [bonus_ring_eq]; simp only [STD, p_bonus_in, p_bonus_size]; unfold ringC
  repeat' split
  all_goals first | rfl | omega
theorem p_ref44_Ring (a b c : Int) : (ref44_Ring_T [.i a, .i b, .i c]).run = some (0, [.i (ringC a b c)]) := by
  rw [ref44_Ring_eq]; simp only [STD, p_ref07_Right, p_ref44_size]; unfold ringC
  repeat' split
  all_goals first | rfl | omega
def bothC (x0 x1 x2 x3 x4 x5 : Int) (x6 : Bool) (a b c : Int) : Int := if chk x0 x1 x2 x3 x4 x5 x6 = 0 then ringC a b c else chk x0 x1 x2 x3 x4 x5 x6
theorem bothC_zero {x0 x1 x2 x3 x4 x5 : Int} {x6 : Bool} {a b c : Int} (h : bothC x0 x1 x2 x3 x4 x5 x6 a b c = 0) : chk x0 x1 x2 x3 x4 x5 x6 = 0 ∧ ringC a b c = 0 := by
  unfold bothC at h; split at h
  · exact ⟨by assumption, h⟩
  · exact absurd h (by assumption)
theorem p_bonus_both (x0 x1 x2 x3 x4 x5 : Int) (x6 : Bool) (a b c : Int) : (bonus_both_T [.i x0, .i x1, .i x2, .i x3, .i x4, .i x5, .b x6, .i a, .i b, .i c]).run = some (0, [.i (bothC x0 x1 x2 x3 x4 x5 x6 a b c)]) := by
  rw [bonus_both_eq]; simp only [STD, p_bonus_Check, p_bonus_ring]; unfold bothC
  by_cases hc : chk x0 x1 x2 x3 x4 x5 x6 = 0 <;> simp [hc]
def sq2 (u v : Int) : Int := u * u + v * v
theorem sq2_comm (a b c d : Int) : sq2 (a - b) (c - d) = sq2 (b - a) (d - c) := by unfold sq2; grind
theorem p_bonus_Distance (x0 x1 x2 x3 x4 x5 : Int) (x6 : Bool) (a b c : Int) : (bonus_Distance_T [.i x0, .i x1, .i x2, .i x3, .i x4, .i x5, .b x6, .i a, .i b, .i c]).run =
    some (0, if bothC x0 x1 x2 x3 x4 x5 x6 a b c = 0 then [.i (sq2 (a - x0) (b - x1)), .i 0] else [.i 0, .i (bothC x0 x1 x2 x3 x4 x5 x6 a b c)]) := by
  rw [bonus_Distance_eq]
  by_cases hc : bothC x0 x1 x2 x3 x4 x5 x6 a b c = 0
  · obtain ⟨c1, c2⟩ := bothC_zero hc
    obtain ⟨h1, h2, h3, h4, _⟩ := chk_zero c1
    obtain ⟨k1, k2, k3, k4, _⟩ := ringC_zero c2
    have e1 : wsub .i64 a x0 = a - x0 := wsub_eq (by omega)
    have e2 : wsub .i64 b x1 = b - x1 := wsub_eq (by omega)
    have b1 := mulB (a := a - x0) (b := a - x0) (A := 200000) (B := 200000) (by omega) (by omega) (by omega) (by omega)
    have b2 := mulB (a := b - x1) (b := b - x1) (A := 200000) (B := 200000) (by omega) (by omega) (by omega) (by omega)
    have e3 : wmul .i64 (a - x0) (a - x0) = (a - x0) * (a - x0) := wmul_eq (by omega)
    have e4 : wmul .i64 (b - x1) (b - x1) = (b - x1) * (b - x1) := wmul_eq (by omega)
    have e5 : wadd .i64 ((a - x0) * (a - x0)) ((b - x1) * (b - x1)) = sq2 (a - x0) (b - x1) := wadd_eq (by omega)
    simp only [STD, p_bonus_both, hc, bonus_gap_eq, e1, e2, e3, e4, e5]
  · simp [p_bonus_both, hc, STD]
/-- a right circle keeps a right target -/
def keep2 (x0 x1 x2 x3 x4 x5 : Int) (x6 : Bool) (a b c : Int) : Bool := decide (x2 ≤ c ∧ c ≤ x3 ∧ 4 * sq2 (a - x0) (b - x1) ≤ (x4 + ext x2 x3 x5 x6 c) * (x4 + ext x2 x3 x5 x6 c))
theorem p_bonus_good (x0 x1 x2 x3 x4 x5 : Int) (x6 : Bool) (a b c : Int) (hc : chk x0 x1 x2 x3 x4 x5 x6 = 0) (hr : ringC a b c = 0) :
    (bonus_good_T [.i x0, .i x1, .i x2, .i x3, .i x4, .i x5, .b x6, .i a, .i b, .i c]).run = some (0, [.b (keep2 x0 x1 x2 x3 x4 x5 x6 a b c)]) := by
  rw [bonus_good_eq]
  obtain ⟨h1, h2, h3, h4, h5, h6, h7, h8, h9, h10, h11, h12, h13, h14⟩ := chk_zero hc
  obtain ⟨k1, k2, k3, k4, k5, k6⟩ := ringC_zero hr
  have e1 : wsub .i64 a x0 = a - x0 := wsub_eq (by omega)
  have e2 : wsub .i64 b x1 = b - x1 := wsub_eq (by omega)
  have b1 := mulB (a := a - x0) (b := a - x0) (A := 200000) (B := 200000) (by omega) (by omega) (by omega) (by omega)
  have b2 := mulB (a := b - x1) (b := b - x1) (A := 200000) (B := 200000) (by omega) (by omega) (by omega) (by omega)
  have e3 : wmul .i64 (a - x0) (a - x0) = (a - x0) * (a - x0) := wmul_eq (by omega)
  have e4 : wmul .i64 (b - x1) (b - x1) = (b - x1) * (b - x1) := wmul_eq (by omega)
  have e5 : wadd .i64 ((a - x0) * (a - x0)) ((b - x1) * (b - x1)) = sq2 (a - x0) (b - x1) := wadd_eq (by omega)
  have e6 : wmul .i64 4 (sq2 (a - x0) (b - x1)) = 4 * sq2 (a - x0) (b - x1) := wmul_eq (by unfold sq2; omega)
  have hb := ext_bound (x5 := x5) (x6 := x6) (n := c) ⟨h5, h6, h7, h8⟩ ⟨k5, k6⟩
  have e7 : wadd .i64 x4 (ext x2 x3 x5 x6 c) = x4 + ext x2 x3 x5 x6 c := wadd_eq (by omega)
  have b3 := mulB (a := x4 + ext x2 x3 x5 x6 c) (b := x4 + ext x2 x3 x5 x6 c) (A := 200000) (B := 200000) (by omega) (by omega) (by omega) (by omega)
  have e8 : wmul .i64 (x4 + ext x2 x3 x5 x6 c) (x4 + ext x2 x3 x5 x6 c) = (x4 + ext x2 x3 x5 x6 c) * (x4 + ext x2 x3 x5 x6 c) := wmul_eq (by omega)
  simp only [STD, p_bonus_of _ _ _ _ _ _ _ ⟨h13, h14⟩, p_bonus_extra x0 x1 x2 x3 x4 x5 x6 c ⟨h5, h6, h7, h8, h13, h14⟩ ⟨k5, k6⟩, bonus_gap_eq, p_bonus_within, e1, e2, e3, e4, e5, e6, e7, e8]
  unfold keep2
  by_cases hw : x2 ≤ c ∧ c ≤ x3
  · simp [hw, ile]
  · simp [hw, PV.toB] <;> (intro q1 q2; exact absurd ⟨q1, q2⟩ hw)
def keepL (x0 x1 x2 x3 x4 x5 : Int) (x6 : Bool) (a b c : Int) : List PV := if bothC x0 x1 x2 x3 x4 x5 x6 a b c = 0 then [.b (keep2 x0 x1 x2 x3 x4 x5 x6 a b c), .i 0] else [.b false, .i (bothC x0 x1 x2 x3 x4 x5 x6 a b c)]
theorem p_bonus_Keeps (x0 x1 x2 x3 x4 x5 : Int) (x6 : Bool) (a b c : Int) : (bonus_Keeps_T [.i x0, .i x1, .i x2, .i x3, .i x4, .i x5, .b x6, .i a, .i b, .i c]).run = some (0, keepL x0 x1 x2 x3 x4 x5 x6 a b c) := by
  rw [bonus_Keeps_eq]; unfold keepL
  by_cases hc : bothC x0 x1 x2 x3 x4 x5 x6 a b c = 0
  · obtain ⟨c1, c2⟩ := bothC_zero hc
    simp only [STD, p_bonus_both, hc, p_bonus_good x0 x1 x2 x3 x4 x5 x6 a b c c1 c2]
  · simp [p_bonus_both, hc, STD]
/-- a right circle keeps the box of a right target -/
def box2 (x0 x1 x2 x3 x4 x5 : Int) (x6 : Bool) (a b c : Int) : Bool :=
  decide (x2 ≤ c ∧ c ≤ x3 ∧ 2 * (a - x0) ≤ x4 + ext x2 x3 x5 x6 c ∧ -(2 * (a - x0)) ≤ x4 + ext x2 x3 x5 x6 c ∧ 2 * (b - x1) ≤ x4 + ext x2 x3 x5 x6 c ∧ -(2 * (b - x1)) ≤ x4 + ext x2 x3 x5 x6 c)
def boxL (x0 x1 x2 x3 x4 x5 : Int) (x6 : Bool) (a b c : Int) : List PV := if bothC x0 x1 x2 x3 x4 x5 x6 a b c = 0 then [.b (box2 x0 x1 x2 x3 x4 x5 x6 a b c), .i 0] else [.b false, .i (bothC x0 x1 x2 x3 x4 x5 x6 a b c)]
end Go.Eng
