import Derived.Test.YtjebekbdjlooiaaPRun3
import Derived.Test.YtjebekbdjlooiaaPRunX
namespace Go.Eng
/-! ### RunoutSquares -/
theorem u16_b {x : Int} (h : IntKind.min .u16 ≤ x) (h2 : x ≤ IntKind.max .u16) : 0 ≤ x ∧ x ≤ 65535 := by
  have e1 : IntKind.min .u16 = 0 := by decide
  have e2 : IntKind.max .u16 = 65535 := by decide
  omega
theorem plainRunoutSquares (x0 : Int) (x1 : Int) (x2 : Int) (lox0 : IntKind.min .u16 ≤ x0) (hix0 : x0 ≤ IntKind.max .u16) (lox1 : IntKind.min .u16 ≤ x1) (hix1 : x1 ≤ IntKind.max .u16) (lox2 : IntKind.min .u16 ≤ x2) (hix2 : x2 ≤ IntKind.max .u16) : (law38_RunoutSquares_T [.i x0, .i x1, .i x2]).run = some (0, [.b true]) := by
  obtain ⟨a1, a2⟩ := u16_b lox0 hix0
  obtain ⟨b1, b2⟩ := u16_b lox1 hix1
  obtain ⟨c1, c2⟩ := u16_b lox2 hix2
  have ew : ∀ x : Int, 0 ≤ x → x ≤ 65535 → wrem (wconv .i64 x) 100000 = x := fun x h1 h2 => by
    rw [wconv_eq (by omega)]; unfold wrem; rw [Int.tmod_eq_emod_of_nonneg h1]; omega
  rw [law38_RunoutSquares_eq]
  rw [ew x0 a1 a2, ew x1 b1 b2, wconv_eq (x := x2) (by omega)]
  obtain ⟨lo, hlo⟩ : ∃ z, z = imin x0 x1 := ⟨_, rfl⟩
  obtain ⟨hi, hhi⟩ : ∃ z, z = imax x0 x1 := ⟨_, rfl⟩
  rw [← hlo, ← hhi]
  have hb : 0 ≤ lo ∧ lo ≤ hi ∧ hi ≤ 65535 := by unfold imin at hlo; unfold imax at hhi; split at hlo <;> split at hhi <;> omega
  have q1 := mulB (a := lo) (b := lo) (A := 65535) (B := 65535) (by omega) (by omega) (by omega) (by omega)
  have q2 := mulB (a := hi) (b := hi) (A := 65535) (B := 65535) (by omega) (by omega) (by omega) (by omega)
  have q3 := sq_nn lo
  have q4 := sq_nn hi
  have q5 := sq_mono hb.1 hb.2.1
  have e1 : wmul .i64 lo lo = lo * lo := wmul_eq (by omega)
  have e2 : wmul .i64 hi hi = hi * hi := wmul_eq (by omega)
  have e3 : wsub .i64 hi lo = hi - lo := wsub_eq (by omega)
  have d1 : diffL (lo * lo) (hi * hi) x2 = [.b (decide (nearP (lo * lo) (hi * hi) x2)), .i 0] := by
    unfold diffL; rw [if_neg (by omega), if_neg (by omega), if_neg (by omega)]
  have d2 : diffL (lo * lo) (lo * lo) 0 = [.b true, .i 0] := by
    unfold diffL; rw [if_neg (by omega), if_neg (by omega), if_neg (by omega), decide_eq_true (.inl (by omega))]
  have d3 : decide (nearP (lo * lo) (hi * hi) x2) = ile (hi - lo) x2 := by
    have := near_sq hb.1 hb.2.1 c1
    unfold ile
    by_cases h : hi - lo ≤ x2
    · rw [decide_eq_true h, decide_eq_true (this.2 h)]
    · rw [decide_eq_false h, decide_eq_false fun h' => h (this.1 h')]
  have w0 : wadd .i64 0 0 = 0 := by decide
  rw [e1, e2, e3]
  simp only [STD, p_runout_Differ, d1, d2, d3, p_law38_awake, w0]
/-! ### RunoutChecks -/
def radL (l : R) (ax ay : Int) : List PV :=
  if vchk l ≠ 0 then [.i 0, .i 0, .i (vchk l)] else if rlen l = 0 then [.i 0, .i 0, .i 13] else if ptE ax ay ≠ 0 then [.i 0, .i 0, .i 2] else [.i (mn (rad ax ay l)), .i (mx (rad ax ay l)), .i 0]
theorem vchk_zero {l : R} (h : vchk l = 0) : l.length ≤ 64 ∧ ∀ i, i < l.length → ptA l i = 0 := by
  unfold vchk at h
  split at h
  · omega
  · rename_i h1; unfold rlen at h1; exact ⟨by omega, firstE_zero h⟩
theorem p_runout_Radii (l : R) (ax ay : Int) : (runout_Radii_T [.r l, .i ax, .i ay]).run = some (0, radL l ax ay) := by
  rw [runout_Radii_eq]
  simp only [STD, p_vector_Check, p_runout_right]
  unfold radL
  by_cases h : vchk l = 0
  · by_cases h0 : rlen l = 0
    · simp only [STD, h, h0]
    · by_cases hp : ptE ax ay = 0
      · obtain ⟨a, b⟩ := vchk_zero h
        have hl : 0 < l.length := by unfold rlen at h0; omega
        simp only [STD, h, h0, hp, p_radii_one ⟨hp, b⟩ hl a, decide_true]
      · simp only [STD, h, h0, hp, decide_false]
  · simp only [STD, h]
theorem p_ref38_Radii (l : R) (ax ay : Int) : (ref38_Radii_T [.r l, .i ax, .i ay]).run = some (0, radL l ax ay) := by
  rw [ref38_Radii_eq]
  simp only [STD, p_ref07_Check, p_ref07_Right]
  unfold radL
  by_cases h : vchk l = 0
  · by_cases h0 : rlen l = 0
    · simp only [STD, h, h0]
    · by_cases hp : ptE ax ay = 0
      · obtain ⟨a, b⟩ := vchk_zero h
        have hl : 0 < l.length := by unfold rlen at h0; omega
        simp only [STD, h, h0, hp, p_ref38_Ends ⟨hp, b⟩ hl (by omega), decide_true]
      · simp only [STD, h, h0, hp, decide_false]
  · simp only [STD, h]
theorem radL_form (l : R) (ax ay : Int) : ∃ a b c, radL l ax ay = [.i a, .i b, .i c] := by
  unfold radL; repeat' split
  all_goals exact ⟨_, _, _, rfl⟩
theorem plainRunoutChecks (x0 : R) (x1 : R) (x2 : Int) (x3 : Int) (lex0 : UFit (.sl [(.int .i64), (.sl [(.int .i64), (.int .i64)])]) (.l x0)) (wex0 : x0.length * 32 ≤ 140737488351232) (lex1 : UFit (.sl [(.int .i64), (.int .i64)]) (.l x1)) (wex1 : x1.length * 16 ≤ 140737488351232) (lox2 : IntKind.min .i64 ≤ x2) (hix2 : x2 ≤ IntKind.max .i64) (lox3 : IntKind.min .i64 ≤ x3) (hix3 : x3 ≤ IntKind.max .i64) : (law38_RunoutChecks_T [.r x0, .r x1, .i x2, .i x3]).run = some (0, [.b true]) := by
  rw [law38_RunoutChecks_eq]
  obtain ⟨few, hf, _⟩ := p_ref38_Few (ownR x0)
  obtain ⟨a, b, c, hr⟩ := radL_form x1 x2 x3
  simp only [STD, p_law38_own x0 (by omega), hf, p_law38_awake, p_ref07_Few, p_runout_Radii, p_ref38_Radii, hr, p_runout_Check, p_ref38_Check, schk_own]
  cases few <;> cases fewP x1 <;> simp [ieq]
/-! ### RunoutBounds -/
theorem given_own (l : R) (x y : Int) : given (ownR l) x y = given l x y := by unfold given; rw [schk_own]
theorem p_law38_right (l : R) (ax ay : Int) (hl : (l.length : Int) ≤ 4398046511104) : ∃ b, (law38_right_T [.r l, .i ax, .i ay]).run = some (0, [.b b]) ∧ (b = true → given l ax ay = 0) := by
  rw [law38_right_eq]
  obtain ⟨few, hf, _⟩ := p_ref38_Few (ownR l)
  simp only [STD, p_law38_own l hl, hf, p_ref38_Given, given_own]
  cases few
  · exact ⟨false, by simp, fun h => by cases h⟩
  · exact ⟨ieq (given l ax ay) 0, by simp, fun h => by simpa [ieq] using h⟩
theorem sec_sub {l : R} {ax ay : Int} (hs : Secs ax ay l) {i : Nat} (hi : i < l.length) : mn (allRad ax ay l) ≤ mn (rad ax ay (cR l i 1)) ∧ mx (rad ax ay (cR l i 1)) ≤ mx (allRad ax ay l) := by
  have hne := rad_ne (ax := ax) (ay := ay) (hs.pts i hi).1
  exact ⟨mn_le (mem_allRad.2 ⟨i, hi, mn_mem hne⟩), le_mx (mem_allRad.2 ⟨i, hi, mx_mem hne⟩)⟩
theorem plainRunoutBounds (x0 : R) (x1 : Int) (x2 : Int) (x3 : Int) (lex0 : UFit (.sl [(.int .i64), (.sl [(.int .i64), (.int .i64)])]) (.l x0)) (wex0 : x0.length * 32 ≤ 140737488351232) (lox1 : IntKind.min .i64 ≤ x1) (hix1 : x1 ≤ IntKind.max .i64) (lox2 : IntKind.min .i64 ≤ x2) (hix2 : x2 ≤ IntKind.max .i64) (lox3 : IntKind.min .u16 ≤ x3) (hix3 : x3 ≤ IntKind.max .u16) : (law38_RunoutBounds_T [.r x0, .i x1, .i x2, .i x3]).run = some (0, [.b true]) := by
  rw [law38_RunoutBounds_eq]
  obtain ⟨c1, c2⟩ := u16_b lox3 hix3
  obtain ⟨right, hr, hg⟩ := p_law38_right x0 x1 x2 (by omega)
  rw [wconv_eq (x := x3) (by omega), wadd_eq (x := x3) (y := 1) (by omega)]
  cases right with
  | false => simp only [STD, hr, p_law38_awake]
  | true =>
    have hg0 := hg rfl
    have hs := secs_of hg0
    obtain ⟨a, b, c⟩ := all_ends hs
    obtain ⟨s1, s2, s3⟩ := leastT_spec a c
    have w0 : wadd .i64 0 0 = 0 := by decide
    have hL : lstL x0 x1 x2 = [.i (leastT (mn (allRad x1 x2 x0)) (mx (allRad x1 x2 x0))), .i 0] := by unfold lstL; rw [if_neg (by simp [hg0])]
    have hT : ∀ t, 0 ≤ t → t ≤ 100000 → totL x0 x1 x2 t = [.b (decide (nearP (mn (allRad x1 x2 x0)) (mx (allRad x1 x2 x0)) t)), .i 0] := fun t h1 h2 => by
      unfold totL; rw [if_neg (by simp [hg0]), if_neg (by omega)]
    have hC : ∀ t, 0 ≤ t → t ≤ 100000 → circL x0 x1 x2 t = [.b (decide (circN x0 x1 x2 t = x0.length)), .i (circN x0 x1 x2 t), .i 0] := fun t h1 h2 => by
      unfold circL; rw [if_neg (by simp [hg0]), if_neg (by omega)]
    have hcirc : ∀ t, nearP (mn (allRad x1 x2 x0)) (mx (allRad x1 x2 x0)) t → circN x0 x1 x2 t = x0.length := fun t h => circN_all fun i hi => by
      obtain ⟨e1, e2⟩ := sec_sub hs hi
      unfold secN; exact decide_eq_true (near_sub e1 e2 h)
    have hcm : circN x0 x1 x2 x3 = x0.length → circN x0 x1 x2 (x3 + 1) = x0.length := fun h => circN_all fun i hi => by
      have := circN_inv h i hi
      obtain ⟨r1, r2, r3⟩ := rad_ends (hs.pts i hi).2.2 (hs.pts i hi).1
      unfold secN at *
      exact decide_eq_true (near_mono r1 c1 (by omega) (of_decide_eq_true this))
    have hle : nearP (mn (allRad x1 x2 x0)) (mx (allRad x1 x2 x0)) x3 ↔ (leastT (mn (allRad x1 x2 x0)) (mx (allRad x1 x2 x0)) : Int) ≤ x3 := by
      constructor
      · intro h
        have := s2 x3.toNat (by rw [Int.toNat_of_nonneg c1]; exact h)
        omega
      · intro h; exact near_mono a (by omega) h s1
    generalize leastT (mn (allRad x1 x2 x0)) (mx (allRad x1 x2 x0)) = L at *
    generalize mn (allRad x1 x2 x0) = lo at *
    generalize mx (allRad x1 x2 x0) = hi at *
    have hT0 := hT x3 c1 (by omega)
    have hT1 := hT (x3 + 1) (by omega) (by omega)
    have hC0 := hC x3 c1 (by omega)
    have hC1 := hC (x3 + 1) (by omega) (by omega)
    have hnn : ¬ ((L : Int) < 0) := by omega
    have k1 : decide (nearP lo hi x3) = ile (L : Int) x3 := by
      unfold ile
      by_cases h : (L : Int) ≤ x3
      · rw [decide_eq_true h, decide_eq_true (hle.2 h)]
      · rw [decide_eq_false h, decide_eq_false fun h' => h (hle.1 h')]
    have k2 : decide (circN x0 x1 x2 x3 = x0.length) = ieq (circN x0 x1 x2 x3 : Int) (rlen x0) := by
      unfold ieq rlen
      by_cases h : circN x0 x1 x2 x3 = x0.length
      · simp [h]
      · rw [decide_eq_false h]; symm; simp; omega
    have k3 : nearP lo hi x3 → nearP lo hi (x3 + 1) := fun h => near_mono a c1 (by omega) h
    have hl : (L : Int) ≤ 100000 → totL x0 x1 x2 L = [.b true, .i 0] := fun h => by rw [hT L (by omega) h, decide_eq_true s1]
    have hless : (L : Int) ≤ 100000 → (0 : Int) < L → totL x0 x1 x2 (wsub .i64 (L : Int) 1) = [.b false, .i 0] := fun h h0 => by
      rw [wsub_eq (by omega), hT ((L : Int) - 1) (by omega) (by omega), decide_eq_false fun h' => ?_]
      have := s2 (L - 1) (by rw [show ((L - 1 : Nat) : Int) = (L : Int) - 1 by omega]; exact h')
      omega
    simp only [STD, hr, p_law38_awake, p_runout_Least, hL, p_runout_Total, p_runout_Circular, hT0, hT1, hC0, hC1, w0, hnn, k1, k2]
    have hk : (circN x0 x1 x2 x3 : Int) = rlen x0 → circN x0 x1 x2 (x3 + 1) = x0.length := fun h => hcm (by unfold rlen at h; omega)
    have hc1 : (L : Int) ≤ x3 → (circN x0 x1 x2 x3 : Int) = rlen x0 := fun h => by rw [hcirc x3 (hle.2 h)]; rfl
    have hn : (L : Int) ≤ x3 → nearP lo hi (x3 + 1) := fun h => k3 (hle.2 h)
    have fin : (if 100000 < (L : Int) then some (0, [PV.b true])
                else
                  if ¬((totL x0 x1 x2 L).getD 1 (PV.i 0)).toI = 0 then some (0, [PV.b false])
                  else
                    if ¬((totL x0 x1 x2 L).getD 0 (PV.i 0)).toB = true then some (0, [PV.b false])
                    else
                      if (0 : Int) < L then
                        if ((totL x0 x1 x2 (wsub IntKind.i64 (L : Int) 1)).getD 1 (PV.i 0)).toI = 0 then
                          if ¬((totL x0 x1 x2 (wsub IntKind.i64 (L : Int) 1)).getD 0 (PV.i 0)).toB = true then
                            some (0, [PV.b true])
                          else some (0, [PV.b false])
                        else some (0, [PV.b false])
                      else some (0, [PV.b true])) = some (0, [PV.b true]) := by
      by_cases h3 : 100000 < (L : Int)
      · rw [if_pos h3]
      · rw [if_neg h3, hl (by omega)]
        by_cases h4 : (0 : Int) < L
        · rw [hless (by omega) h4]; simp only [STD, h4]
        · simp only [STD, h4]
    rw [fin]
    by_cases h1 : (L : Int) ≤ x3
    · simp only [STD, h1, hc1 h1, hn h1, hk (hc1 h1)]
    · by_cases h2 : (circN x0 x1 x2 x3 : Int) = rlen x0
      · simp only [STD, h1, h2, hk h2]
      · simp only [STD, h1, h2]
end Go.Eng
