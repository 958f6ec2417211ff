import Derived.Test.YtcdlfamincogdaaDoorPBonus2
namespace Go.Eng
def ext (x2 x3 x5 : Int) (x6 : Bool) (n : Int) : Int := if x5 = 0 then 0 else if (x5 = 1) = (x6 = true) then x3 - n else n - x2
theorem p_bonus_within (x0 x1 x2 x3 x4 x5 : Int) (x6 : Bool) (n : Int) : (bonus_within_T [.i x0, .i x1, .i x2, .i x3, .i x4, .i x5, .b x6, .i n]).run = some (0, [.b (decide (x2 ≤ n ∧ n ≤ x3))]) := by
  rw [bonus_within_eq]; simp only [STD]; by_cases h : x2 ≤ n <;> simp [h, ile]
theorem p_ref44_Inside (x0 x1 x2 x3 x4 x5 : Int) (x6 : Bool) (n : Int) : (ref44_Inside_T [.i x0, .i x1, .i x2, .i x3, .i x4, .i x5, .b x6, .i n]).run = some (0, [.b (decide (x2 ≤ n ∧ n ≤ x3))]) := by
  rw [ref44_Inside_eq]; simp only [STD]; by_cases h : x2 ≤ n <;> simp [h, ile]
theorem p_bonus_extra (x0 x1 x2 x3 x4 x5 : Int) (x6 : Bool) (n : Int) (h : 1 ≤ x2 ∧ x2 ≤ 100000 ∧ 1 ≤ x3 ∧ x3 ≤ 100000 ∧ 0 ≤ x5 ∧ x5 ≤ 2) (hn : 1 ≤ n ∧ n ≤ 100000) :
    (bonus_condition_extra_T [.i x0, .i x1, .i x2, .i x3, .i x4, .i x5, .b x6, .i (side x5 x6), .i n]).run = some (0, [.i (ext x2 x3 x5 x6 n)]) := by
  rw [bonus_condition_extra_eq]
  simp only [STD, p_bonus_condition_end]
  have e1 : wsub .i64 x2 n = x2 - n := wsub_eq (by omega)
  have e2 : wsub .i64 x3 n = x3 - n := wsub_eq (by omega)
  have e3 : wmul .i64 (-1) (x2 - n) = -1 * (x2 - n) := wmul_eq (by omega)
  have e4 : wmul .i64 1 (x3 - n) = 1 * (x3 - n) := wmul_eq (by omega)
  unfold ext side
  by_cases h0 : x5 = 0
  · simp [h0]
  · have h12 : x5 = 1 ∨ x5 = 2 := by omega
    rcases h12 with rfl | rfl <;> cases x6 <;> simp [e1, e2, e3, e4] <;> omega
def bonusL (x0 x1 x2 x3 x4 x5 : Int) (x6 : Bool) (n : Int) : List PV :=
  if chk x0 x1 x2 x3 x4 x5 x6 = 0 then (if x2 ≤ n ∧ n ≤ x3 then [.i (ext x2 x3 x5 x6 n), .i 0] else [.i 0, .i 2]) else [.i 0, .i (chk x0 x1 x2 x3 x4 x5 x6)]
def allowedL (x0 x1 x2 x3 x4 x5 : Int) (x6 : Bool) (n : Int) : List PV :=
  if chk x0 x1 x2 x3 x4 x5 x6 = 0 then (if x2 ≤ n ∧ n ≤ x3 then [.i (x4 + ext x2 x3 x5 x6 n), .i 0] else [.i 0, .i 2]) else [.i 0, .i (chk x0 x1 x2 x3 x4 x5 x6)]
theorem ext_bound {x2 x3 x5 : Int} {x6 : Bool} {n : Int} (h : 1 ≤ x2 ∧ x2 ≤ 100000 ∧ 1 ≤ x3 ∧ x3 ≤ 100000) (hn : 1 ≤ n ∧ n ≤ 100000) : -100000 ≤ ext x2 x3 x5 x6 n ∧ ext x2 x3 x5 x6 n ≤ 100000 := by
  unfold ext; split
  · omega
  · split <;> omega
end Go.Eng
