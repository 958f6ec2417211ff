import Derived.Test.YtoemfkkeojmgkaaDoorPBonus5
import Derived.Test.YtoemfkkeojmgkaaDoorPBonusX
import Derived.Test.YtoemfkkeojmgkaaDoorPSlices
namespace Go.Eng
def tchk (l : R) (i : Nat) : Int := chk (cI l i 0) (cI l i 1) (cI l i 2) (cI l i 3) (cI l i 4) (cI l i 5) (cB l i 6)
def rchk (l : R) (i : Nat) : Int := ringC (cI l i 0) (cI l i 1) (cI l i 2)
def errAt (f : Nat → Int) (i : Nat) : Option Int := if f i = 0 then none else some (f i)
def plateC (x0 x1 : R) : Int :=
  if 16 < rlen x0 then 5 else match scan (errAt (tchk x0)) 0 x0.length with
  | some e => e
  | none => if rlen x1 ≠ rlen x0 then 8 else match scan (errAt (rchk x1)) 0 x1.length with
    | some e => e
    | none => 0
theorem errAt_none {f : Nat → Int} {i : Nat} (h : (errAt f i).map (fun e => (1, [PV.i e])) = none) : f i = 0 := by
  unfold errAt at h; split at h
  · assumption
  · simp at h
theorem errAt_some {f : Nat → Int} {i : Nat} {r : Nat × List PV} (h : (errAt f i).map (fun e => (1, [PV.i e])) = some r) : f i ≠ 0 ∧ r = (1, [.i (f i)]) := by
  unfold errAt at h; split at h
  · simp at h
  · simp at h; exact ⟨by assumption, h.symm⟩
theorem p_bonus_CheckPlate_L6 (x0 x1 : R) (h : x0.length < 9223372036854775808) : (loopT bonus_CheckPlate_L6S [.r x0, .r x1, .r x0, .i (rlen x0), .i 0]).run =
    some (((scan (errAt (tchk x0)) 0 x0.length).map fun e => (1, [PV.i e])).getD (0, [.r x0, .r x1])) := by
  rw [← scan_map]
  refine loop_scan (fun i => [.r x0, .r x1, .r x0, .i (rlen x0), .i (i : Int)]) _ (0, [.r x0, .r x1]) x0.length h (fun i hi hf => ?_) (fun i r hi hf => ?_) ?_
  · have h1 : (i : Int) < rlen x0 := by unfold rlen; omega
    have h2 := errAt_none hf
    unfold tchk at h2
    rw [bonus_CheckPlate_L6eq]
    simp only [STD, h1, p_bonus_Check, h2, wsucc hi h, show (0 : Int) ≤ (i : Int) by omega, and_self]
  · have h1 : (i : Int) < rlen x0 := by unfold rlen; omega
    obtain ⟨h2, rfl⟩ := errAt_some hf
    unfold tchk at h2 ⊢
    rw [bonus_CheckPlate_L6eq]
    simp only [STD, h1, p_bonus_Check, h2, show (0 : Int) ≤ (i : Int) by omega, and_self]
  · rw [bonus_CheckPlate_L6eq]
    simp only [STD, show ¬ ((x0.length : Int) < rlen x0) by unfold rlen; omega]
theorem p_bonus_CheckPlate_L19 (x1 : R) (h : x1.length < 9223372036854775808) : (loopT bonus_CheckPlate_L19S [.r x1, .i (rlen x1), .i 0]).run =
    some (((scan (errAt (rchk x1)) 0 x1.length).map fun e => (1, [PV.i e])).getD (0, [])) := by
  rw [← scan_map]
  refine loop_scan (fun i => [.r x1, .i (rlen x1), .i (i : Int)]) _ (0, []) x1.length h (fun i hi hf => ?_) (fun i r hi hf => ?_) ?_
  · have h1 : (i : Int) < rlen x1 := by unfold rlen; omega
    have h2 := errAt_none hf
    unfold rchk at h2
    rw [bonus_CheckPlate_L19eq]
    simp only [STD, h1, p_bonus_ring, h2, wsucc hi h, show (0 : Int) ≤ (i : Int) by omega, and_self]
  · have h1 : (i : Int) < rlen x1 := by unfold rlen; omega
    obtain ⟨h2, rfl⟩ := errAt_some hf
    unfold rchk at h2 ⊢
    rw [bonus_CheckPlate_L19eq]
    simp only [STD, h1, p_bonus_ring, h2, show (0 : Int) ≤ (i : Int) by omega, and_self]
  · rw [bonus_CheckPlate_L19eq]
    simp only [STD, show ¬ ((x1.length : Int) < rlen x1) by unfold rlen; omega]
theorem p_bonus_CheckPlate (x0 x1 : R) (h : x0.length < 9223372036854775808) (k : x1.length < 9223372036854775808) : (bonus_CheckPlate_T [.r x0, .r x1]).run = some (0, [.i (plateC x0 x1)]) := by
  rw [bonus_CheckPlate_eq]
  unfold plateC
  have e1 := p_bonus_CheckPlate_L6 x0 x1 h
  have e2 := p_bonus_CheckPlate_L19 x1 k
  by_cases h16 : 16 < rlen x0
  · simp [h16, STD]
  · cases hs : scan (errAt (tchk x0)) 0 x0.length with
    | some e =>
      rw [hs] at e1
      simp only [Option.map_some, Option.getD_some] at e1
      simp [h16, STD, e1, jIs_of e1]
    | none =>
      rw [hs] at e1
      simp only [Option.map_none, Option.getD_none] at e1
      by_cases hl : rlen x1 = rlen x0
      · cases ht : scan (errAt (rchk x1)) 0 x1.length with
        | some e =>
          rw [ht] at e2
          simp only [Option.map_some, Option.getD_some] at e2
          rw [hl] at e2
          simp [h16, STD, e1, jIs_of e1, hl, e2, jIs_of e2]
        | none =>
          rw [ht] at e2
          simp only [Option.map_none, Option.getD_none] at e2
          rw [hl] at e2
          simp [h16, STD, e1, jIs_of e1, hl, e2, jIs_of e2]
      · simp [h16, STD, e1, jIs_of e1, hl]
theorem p_ref44_CheckPlate_L6 (x0 x1 : R) (h : x0.length < 9223372036854775808) : (loopT ref44_CheckPlate_L6S [.r x0, .r x1, .i 0]).run =
    some (((scan (errAt (tchk x0)) 0 x0.length).map fun e => (1, [PV.i e])).getD (0, [.r x0, .r x1])) := by
  rw [← scan_map]
  refine loop_scan (fun i => [.r x0, .r x1, .i (i : Int)]) _ (0, [.r x0, .r x1]) x0.length h (fun i hi hf => ?_) (fun i r hi hf => ?_) ?_
  · have h1 : (i : Int) < rlen x0 := by unfold rlen; omega
    have h2 := errAt_none hf
    unfold tchk at h2
    rw [ref44_CheckPlate_L6eq]
    simp only [STD, h1, p_ref44_Check, h2, wsucc hi h, show (0 : Int) ≤ (i : Int) by omega, and_self]
  · have h1 : (i : Int) < rlen x0 := by unfold rlen; omega
    obtain ⟨h2, rfl⟩ := errAt_some hf
    unfold tchk at h2 ⊢
    rw [ref44_CheckPlate_L6eq]
    simp only [STD, h1, p_ref44_Check, h2, show (0 : Int) ≤ (i : Int) by omega, and_self]
  · rw [ref44_CheckPlate_L6eq]
    simp only [STD, show ¬ ((x0.length : Int) < rlen x0) by unfold rlen; omega]
theorem p_ref44_CheckPlate_L18 (x1 : R) (h : x1.length < 9223372036854775808) : (loopT ref44_CheckPlate_L18S [.r x1, .i 0]).run =
    some (((scan (errAt (rchk x1)) 0 x1.length).map fun e => (1, [PV.i e])).getD (0, [])) := by
  rw [← scan_map]
  refine loop_scan (fun i => [.r x1, .i (i : Int)]) _ (0, []) x1.length h (fun i hi hf => ?_) (fun i r hi hf => ?_) ?_
  · have h1 : (i : Int) < rlen x1 := by unfold rlen; omega
    have h2 := errAt_none hf
    unfold rchk at h2
    rw [ref44_CheckPlate_L18eq]
    simp only [STD, h1, p_ref44_Ring, h2, wsucc hi h, show (0 : Int) ≤ (i : Int) by omega, and_self]
  · have h1 : (i : Int) < rlen x1 := by unfold rlen; omega
    obtain ⟨h2, rfl⟩ := errAt_some hf
    unfold rchk at h2 ⊢
    rw [ref44_CheckPlate_L18eq]
    simp only [STD, h1, p_ref44_Ring, h2, show (0 : Int) ≤ (i : Int) by omega, and_self]
  · rw [ref44_CheckPlate_L18eq]
    simp only [STD, show ¬ ((x1.length : Int) < rlen x1) by unfold rlen; omega]
theorem p_ref44_CheckPlate (x0 x1 : R) (h : x0.length < 9223372036854775808) (k : x1.length < 9223372036854775808) : (ref44_CheckPlate_T [.r x0, .r x1]).run = some (0, [.i (plateC x0 x1)]) := by
  rw [ref44_CheckPlate_eq]
  unfold plateC
  have e1 := p_ref44_CheckPlate_L6 x0 x1 h
  have e2 := p_ref44_CheckPlate_L18 x1 k
  by_cases h16 : 16 < rlen x0
  · simp [h16, STD]
  · cases hs : scan (errAt (tchk x0)) 0 x0.length with
    | some e =>
      rw [hs] at e1
      simp only [Option.map_some, Option.getD_some] at e1
      simp [h16, STD, e1, jIs_of e1]
    | none =>
      rw [hs] at e1
      simp only [Option.map_none, Option.getD_none] at e1
      by_cases hl : rlen x1 = rlen x0
      · cases ht : scan (errAt (rchk x1)) 0 x1.length with
        | some e =>
          rw [ht] at e2
          simp only [Option.map_some, Option.getD_some] at e2
          simp [h16, STD, e1, jIs_of e1, hl, e2, jIs_of e2]
        | none =>
          rw [ht] at e2
          simp only [Option.map_none, Option.getD_none] at e2
          simp [h16, STD, e1, jIs_of e1, hl, e2, jIs_of e2]
      · simp [h16, STD, e1, jIs_of e1, hl]
theorem errAt_all {f : Nat → Int} {n : Nat} (h : scan (errAt f) 0 n = none) (i : Nat) (hi : i < n) : f i = 0 := by
  have := scan_none h i (by omega) (by omega)
  unfold errAt at this; split at this
  · assumption
  · cases this
theorem errAt_ne {f : Nat → Int} : ∀ {k i : Nat} {e : Int}, scan (errAt f) i k = some e → e ≠ 0
  | 0, i, e, h => by cases h
  | k + 1, i, e, h => by
    simp only [scan] at h
    unfold errAt at h
    by_cases h0 : f i = 0
    · rw [if_pos h0] at h; exact errAt_ne h
    · rw [if_neg h0] at h; simp at h; omega
theorem plateC_zero {x0 x1 : R} (h : plateC x0 x1 = 0) : x0.length ≤ 16 ∧ x1.length = x0.length ∧ (∀ i, i < x0.length → tchk x0 i = 0) ∧ (∀ i, i < x1.length → rchk x1 i = 0) := by
  unfold plateC at h
  split at h
  · omega
  · rename_i h16
    split at h
    · rename_i e he; exact absurd h (errAt_ne he)
    · rename_i he
      split at h
      · omega
      · rename_i hl
        split at h
        · rename_i e hf; exact absurd h (errAt_ne hf)
        · rename_i hf
          unfold rlen at hl h16
          exact ⟨by omega, by omega, errAt_all he, errAt_all hf⟩
def failAt (x0 x1 : R) (i : Nat) : Bool := !keep2 (cI x0 i 0) (cI x0 i 1) (cI x0 i 2) (cI x0 i 3) (cI x0 i 4) (cI x0 i 5) (cB x0 i 6) (cI x1 i 0) (cI x1 i 1) (cI x1 i 2)
def failL (x0 x1 : R) : List PV := if plateC x0 x1 = 0 then [.r (pick (failAt x0 x1) x0.length), .i 0] else [.r [], .i (plateC x0 x1)]
theorem p_bonus_Failures (x0 x1 : R) (h : x0.length < 9223372036854775808) (k : x1.length < 9223372036854775808) : (bonus_Failures_T [.r x0, .r x1]).run = some (0, failL x0 x1) := by
  rw [bonus_Failures_eq]
  unfold failL
  by_cases hp : plateC x0 x1 = 0
  · obtain ⟨h16, hl, ht, hr⟩ := plateC_zero hp
    have e : (loopT bonus_Failures_L8S [.r x1, .r x0, .i (rlen x0), .i 0, .r []]).run = some (0, [.r (pick (failAt x0 x1) x0.length)]) := by
      refine loop_count (fun i => [.r x1, .r x0, .i (rlen x0), .i (i : Int), .r (pick (failAt x0 x1) i)]) (0, [.r (pick (failAt x0 x1) x0.length)]) x0.length h (fun i hi => ?_) ?_
      · have h1 : (i : Int) < rlen x0 := by unfold rlen; omega
        have h2 : (i : Int) < rlen x1 := by unfold rlen; omega
        have h3 : rlen (pick (failAt x0 x1) i) + rlen [[U.i (i : Int)]] ≤ 34359738368 := by
          have := pick_len (failAt x0 x1) i
          rw [rlen_one]; unfold rlen; omega
        rw [bonus_Failures_L8eq]
        have hg := p_bonus_good (cI x0 i 0) (cI x0 i 1) (cI x0 i 2) (cI x0 i 3) (cI x0 i 4) (cI x0 i 5) (cB x0 i 6) (cI x1 i 0) (cI x1 i 1) (cI x1 i 2) (ht i hi) (hr i (by omega))
        simp only [STD, h1, h2, h3, hg, wsucc hi h, show (0 : Int) ≤ (i : Int) by omega, and_self, pick]
        unfold failAt
        cases keep2 (cI x0 i 0) (cI x0 i 1) (cI x0 i 2) (cI x0 i 3) (cI x0 i 4) (cI x0 i 5) (cB x0 i 6) (cI x1 i 0) (cI x1 i 1) (cI x1 i 2) <;> simp
      · rw [bonus_Failures_L8eq]
        simp only [STD, show ¬ ((x0.length : Int) < rlen x0) by unfold rlen; omega]
    simp only [STD, p_bonus_CheckPlate x0 x1 h k, hp, e]
  · simp [STD, p_bonus_CheckPlate x0 x1 h k, hp]
theorem p_ref44_Failures (x0 x1 : R) (h : x0.length < 9223372036854775808) (k : x1.length < 9223372036854775808) : (ref44_Failures_T [.r x0, .r x1]).run = some (0, failL x0 x1) := by
  rw [ref44_Failures_eq]
  unfold failL
  by_cases hp : plateC x0 x1 = 0
  · obtain ⟨h16, hl, ht, hr⟩ := plateC_zero hp
    have e : (loopT ref44_Failures_L8S [.r x0, .r x1, .i 0, .r []]).run = some (0, [.r (pick (failAt x0 x1) x0.length)]) := by
      refine loop_count (fun i => [.r x0, .r x1, .i (i : Int), .r (pick (failAt x0 x1) i)]) (0, [.r (pick (failAt x0 x1) x0.length)]) x0.length h (fun i hi => ?_) ?_
      · have h1 : (i : Int) < rlen x0 := by unfold rlen; omega
        have h2 : (i : Int) < rlen x1 := by unfold rlen; omega
        have h3 : rlen (pick (failAt x0 x1) i) + rlen [[U.i (i : Int)]] ≤ 34359738368 := by
          have := pick_len (failAt x0 x1) i
          rw [rlen_one]; unfold rlen; omega
        rw [ref44_Failures_L8eq]
        have hg := p_ref44_Good (cI x0 i 0) (cI x0 i 1) (cI x0 i 2) (cI x0 i 3) (cI x0 i 4) (cI x0 i 5) (cB x0 i 6) (cI x1 i 0) (cI x1 i 1) (cI x1 i 2) (ht i hi) (hr i (by omega))
        simp only [STD, h1, h2, h3, hg, wsucc hi h, show (0 : Int) ≤ (i : Int) by omega, and_self, pick]
        unfold failAt
        cases keep2 (cI x0 i 0) (cI x0 i 1) (cI x0 i 2) (cI x0 i 3) (cI x0 i 4) (cI x0 i 5) (cB x0 i 6) (cI x1 i 0) (cI x1 i 1) (cI x1 i 2) <;> simp
      · rw [ref44_Failures_L8eq]
        simp only [STD, show ¬ ((x0.length : Int) < rlen x0) by unfold rlen; omega]
    simp only [STD, p_ref44_CheckPlate x0 x1 h k, hp, e]
  · simp [STD, p_ref44_CheckPlate x0 x1 h k, hp]
theorem plainBonusPlates (x0 : R) (x1 : R) (lex0 : UFit (.sl [(.int .i64), (.int .i64), (.int .i64), (.int .i64), (.int .i64), (.int .i64), .bool]) (.l x0)) (lex1 : UFit (.sl [(.int .i64), (.int .i64), (.int .i64)]) (.l x1)) : (law44_BonusPlates_T [.r x0, .r x1]).run = some (0, [.b true]) := by
  rw [law44_BonusPlates_eq]
  have h0 : x0.length < 9223372036854775808 := by cases lex0 with | sl _ _ h => unfold maxLen at h; omega
  have h1 : x1.length < 9223372036854775808 := by cases lex1 with | sl _ _ h => unfold maxLen at h; omega
  obtain ⟨l, n, hfl, hl⟩ : ∃ l n, failL x0 x1 = [.r l, .i n] ∧ l.length < 9223372036854775808 := by
    unfold failL; split
    · have := pick_len (failAt x0 x1) x0.length
      exact ⟨_, _, rfl, by omega⟩
    · exact ⟨[], _, rfl, by decide⟩
  simp only [STD, ref44_Few_eq, p_law44_awake, p_bonus_Failures x0 x1 h0 h1, p_ref44_Failures x0 x1 h0 h1, p_bonus_CheckPlate x0 x1 h0 h1, p_ref44_CheckPlate x0 x1 h0 h1, hfl, p_slices_Equal_refl l hl]
  by_cases hf : rlen x0 ≤ 32
  · by_cases hg : rlen x1 ≤ 32
    · simp only [hf, hg, STD]
    · simp only [hf, hg, STD]
  · simp only [hf, STD, Bool.false_eq_true]
end Go.Eng
