import Derived.Test.YtjebekbdjlooiaaPRef3
import Derived.Test.YtjebekbdjlooiaaPRun5
namespace Go.Eng
/-! ### RunoutDiffers, RunoutJudges -/
theorem sgn_le (x : Int) : (sgn x ≤ 0) = (x ≤ 0) := by
  unfold sgn
  by_cases h : x < 0
  · rw [if_pos h]; simp only [eq_iff_iff]; omega
  · rw [if_neg h]
    by_cases h2 : x = 0
    · rw [if_pos h2]; simp only [eq_iff_iff]; omega
    · rw [if_neg h2]; simp only [eq_iff_iff]; omega
theorem nl19 {x : Int} (h1 : -1000000000000000000 ≤ x) (h2 : x ≤ 1000000000000000000) : nl x ≤ 19 := by
  have hp : (10 : Nat) ^ (18 + 1) = 10000000000000000000 := by decide
  exact len_tN_le 18 _ (by rw [hp]; omega)
theorem p_ref38_Near {lo hi t : Int} (h1 : 0 ≤ lo) (h2 : lo ≤ hi) (h3 : hi ≤ 80000000000) (h4 : 0 ≤ t) (h5 : t ≤ 400000) : (ref38_Near_T [.i lo, .i hi, .i t]).run = some (0, [.b (decide (nearP lo hi t))]) := by
  have ht := mulB (a := t) (b := t) (A := 400000) (B := 400000) (by omega) h5 (by omega) h5
  have ht0 := sq_nn t
  have e1 : wsub .i64 hi lo = hi - lo := wsub_eq (by omega)
  have e2 : wmul .i64 t t = t * t := wmul_eq (by omega)
  have e3 : wsub .i64 (hi - lo) (t * t) = hi - lo - t * t := wsub_eq (by omega)
  have e4 : wmul .i64 4 t = 4 * t := wmul_eq (by omega)
  have e4' : 4 * t * t = 4 * (t * t) := Int.mul_assoc _ _ _
  have e5 : wmul .i64 (4 * t) t = 4 * t * t := wmul_eq (by rw [e4']; omega)
  have o1 := p_ref01_Of (hi - lo - t * t) (by omega) (by omega)
  have o2 := p_ref01_Of (4 * t * t) (by rw [e4']; omega) (by rw [e4']; omega)
  have o3 := p_ref01_Of lo (by omega) (by omega)
  have n1 := nl19 (x := hi - lo - t * t) (by omega) (by omega)
  have n2 := nl19 (x := 4 * t * t) (by rw [e4']; omega) (by rw [e4']; omega)
  have n3 := nl19 (x := lo) (by omega) (by omega)
  have t1 := p_ref01_Times (hi - lo - t * t) (hi - lo - t * t) (by omega) (by omega)
  have t2 := p_ref01_Times (4 * t * t) lo (by omega) (by omega)
  have m1 := nl_mul (hi - lo - t * t) (hi - lo - t * t)
  have m2 := nl_mul (4 * t * t) lo
  have ord := p_ref01_Order ((hi - lo - t * t) * (hi - lo - t * t)) (4 * t * t * lo) (by omega) (by omega)
  rw [ref38_Near_eq]
  simp only [STD, e1, e2, e3, e4, e5, o1, o2, o3, t1, t2, ord]
  by_cases hd : hi - lo - t * t ≤ 0
  · rw [if_pos hd, decide_eq_true (show nearP lo hi t from .inl hd)]
  · rw [if_neg hd]
    have hdec : ile (sgn ((hi - lo - t * t) * (hi - lo - t * t) - 4 * t * t * lo)) 0 = decide (nearP lo hi t) := by
      unfold ile
      have hs := sgn_le ((hi - lo - t * t) * (hi - lo - t * t) - 4 * t * t * lo)
      by_cases hq : (hi - lo - t * t) * (hi - lo - t * t) ≤ 4 * t * t * lo
      · rw [decide_eq_true (show nearP lo hi t from .inr hq), decide_eq_true (by rw [hs]; omega)]
      · rw [decide_eq_false (by rw [hs]; omega), decide_eq_false fun h => ?_]
        rcases h with h | h
        · exact hd h
        · exact hq h
    rw [hdec]
theorem p_ref38_Differ (lo hi t : Int) : (ref38_Differ_T [.i lo, .i hi, .i t]).run = some (0, diffL lo hi t) := by
  rw [ref38_Differ_eq]
  simp only [STD, p_ref38_Tol]
  unfold diffL
  by_cases h1 : lo < 0
  · simp [h1]
  by_cases h2 : 80000000000 < lo
  · simp [h1, h2]
  by_cases h3 : hi < 0
  · simp [h1, h2, h3]
  by_cases h4 : 80000000000 < hi
  · simp [h1, h2, h3, h4]
  by_cases h5 : hi < lo
  · simp [h1, h2, h3, h4, h5]
  by_cases h6 : t < 0 ∨ 100000 < t
  · simp only [h1, h2, h3, h4, h5, h6, STD, or_self, if_true, show ¬ ((2 : Int) = 0) by decide]
  · simp only [h1, h2, h3, h4, h5, h6, STD, p_ref38_Near (lo := lo) (hi := hi) (t := t) (by omega) (by omega) (by omega) (by omega) (by omega), or_self]
theorem diffL_form (lo hi t : Int) : ∃ a b, diffL lo hi t = [.b a, .i b] := by
  unfold diffL; repeat' split
  all_goals exact ⟨_, _, rfl⟩
theorem plainRunoutDiffers (x0 : Int) (x1 : Int) (x2 : Int) (lox0 : IntKind.min .i64 ≤ x0) (hix0 : x0 ≤ IntKind.max .i64) (lox1 : IntKind.min .i64 ≤ x1) (hix1 : x1 ≤ IntKind.max .i64) (lox2 : IntKind.min .i64 ≤ x2) (hix2 : x2 ≤ IntKind.max .i64) : (law38_RunoutDiffers_T [.i x0, .i x1, .i x2]).run = some (0, [.b true]) := by
  rw [law38_RunoutDiffers_eq]
  obtain ⟨a, b, h⟩ := diffL_form x0 x1 x2
  simp only [STD, p_runout_Differ, p_ref38_Differ, h, p_law38_awake]
  simp [ieq]
/-! the points of all sections -/
theorem rad_map (ax ay : Int) (l : R) : rad ax ay l = l.map fun row => sqr ((row.getD 0 (.i 0)).toI - ax) ((row.getD 1 (.i 0)).toI - ay) := by
  unfold rad far cI cellU
  apply List.ext_getElem?
  intro i
  by_cases h : i < l.length
  · simp [h, List.getD_eq_getElem?_getD]
  · simp [h]
theorem okP_mem {ax ay : Int} {l : R} : okP ax ay l ↔ ptE ax ay = 0 ∧ ∀ row, row ∈ l → ptE ((row.getD 0 (.i 0)).toI) ((row.getD 1 (.i 0)).toI) = 0 := by
  unfold okP ptA cI cellU
  constructor
  · rintro ⟨h1, h2⟩
    refine ⟨h1, fun row hr => ?_⟩
    obtain ⟨i, hi, rfl⟩ := List.mem_iff_getElem.1 hr
    have := h2 i hi
    simpa [List.getD_eq_getElem?_getD, hi] using this
  · rintro ⟨h1, h2⟩
    refine ⟨h1, fun i hi => ?_⟩
    have := h2 l[i] (List.getElem_mem hi)
    simpa [List.getD_eq_getElem?_getD, hi] using this
def allPts (l : R) (k : Nat) : R := ((List.range k).map fun i : Nat => cR l (i : Int) 1).flatten
theorem allPts_succ (l : R) (k : Nat) : rapp (allPts l k) (cR l k 1) = allPts l (k + 1) := by simp [allPts, List.range_succ, rapp]
theorem allPts_len {l : R} (h : ∀ i : Nat, i < l.length → (cR l i 1).length ≤ 64) : ∀ k, k ≤ l.length → (allPts l k).length ≤ 64 * k
  | 0, _ => by simp [allPts]
  | k + 1, hk => by
    have := allPts_len h k (by omega)
    have := h k (by omega)
    rw [← allPts_succ]; simp only [rapp, List.length_append]; omega
theorem allPts_rad (ax ay : Int) (l : R) : rad ax ay (allPts l l.length) = allRad ax ay l := by
  rw [rad_map]
  unfold allPts allRad
  rw [List.map_flatten, List.map_map]
  congr 1
  exact List.map_congr_left fun i _ => (rad_map ax ay _).symm
theorem allPts_ok {ax ay : Int} {l : R} (h : Secs ax ay l) : okP ax ay (allPts l l.length) ∧ 0 < (allPts l l.length).length ∧ (allPts l l.length).length ≤ 2048 := by
  refine ⟨okP_mem.2 ⟨h.axis, fun row hr => ?_⟩, ?_, ?_⟩
  · unfold allPts at hr
    obtain ⟨m, hm, hr⟩ := List.mem_flatten.1 hr
    obtain ⟨i, hi, rfl⟩ := List.mem_map.1 hm
    exact (okP_mem.1 (h.pts i (List.mem_range.1 hi)).2.2).2 row hr
  · have hne := allRad_ne h
    rw [← allPts_rad] at hne
    have := List.length_pos_iff.2 hne
    rwa [rad_len] at this
  · have := allPts_len (fun i hi => (h.pts i hi).2.1) l.length (Nat.le_refl _)
    have := h.le; omega
theorem p_ref38_All {l : R} (hl : l.length ≤ 32) (h : ∀ i : Nat, i < l.length → (cR l i 1).length ≤ 64) : (ref38_All_T [.r l]).run = some (0, [.r (allPts l l.length)]) := by
  rw [ref38_All_eq]
  have k := loop_count (S := ref38_All_L4S) (fun i => [.r l, .i (i : Int), .r (allPts l i)]) (0, [.r (allPts l l.length)]) l.length (by omega) (fun i hi => by
    rw [ref38_All_L4eq]
    have h1 := allPts_len h i (by omega)
    have h2 := h i hi
    have hle : rlen (allPts l i) + rlen (cR l i 1) ≤ 8796093022208 := by unfold rlen; omega
    simp only [STD, idx_lt hi, idx_nn, and_self, hle, wsucc hi (by omega), allPts_succ]) (by
    rw [ref38_All_L4eq]
    simp only [STD, idx_end])
  have k' : (loopT ref38_All_L4S [.r l, .i 0, .r []]).run = _ := k
  simp only [STD, k']
theorem p_ref38_EndsAll {ax ay : Int} {l : R} (h : Secs ax ay l) : (ref38_Ends_T [.r (allPts l l.length), .i ax, .i ay]).run = some (0, [.i (mn (allRad ax ay l)), .i (mx (allRad ax ay l))]) := by
  obtain ⟨a, b, c⟩ := allPts_ok h
  have := p_ref38_Ends a b (by omega)
  rwa [allPts_rad] at this
theorem p_ref38_Total (l : R) (ax ay t : Int) : (ref38_Total_T [.r l, .i ax, .i ay, .i t]).run = some (0, totL l ax ay t) := by
  rw [ref38_Total_eq]
  simp only [STD, p_ref38_Given, p_ref38_Tol]
  unfold totL
  by_cases hg : given l ax ay = 0
  · by_cases h6 : t < 0 ∨ 100000 < t
    · simp only [hg, h6, STD, if_true, show ¬ ((2 : Int) = 0) by decide]
    · have hs := secs_of hg
      obtain ⟨a, b, c⟩ := all_ends hs
      simp only [hg, h6, STD, p_ref38_All hs.le (fun i hi => (hs.pts i hi).2.1), p_ref38_EndsAll hs, p_ref38_Near a b c (show 0 ≤ t by omega) (show t ≤ 400000 by omega)]
  · simp only [hg, STD]
theorem p_ref38_First {l : R} {ax ay t : Int} (hs : Secs ax ay l) (h1 : 0 ≤ t) (h2 : t ≤ 100000) : (ref38_First_T [.r l, .i ax, .i ay, .i t]).run = some (0, [.i (circN l ax ay t)]) := by
  rw [ref38_First_eq]
  have hl := hs.le
  have k := loop_scan (S := ref38_First_L3S) (fun i => [.r l, .i t, .i (i : Int), .i ax, .i ay]) (fun i => (if secN l ax ay t i = true then none else some i).map fun i : Nat => (1, [.i (i : Int)])) (0, [.r l]) l.length (by omega) (fun i hi hf => by
    obtain ⟨a, b, c⟩ := rad_ends (hs.pts i hi).2.2 (hs.pts i hi).1
    have hn : secN l ax ay t i = true := by
      cases h : secN l ax ay t i with
      | true => rfl
      | false => rw [h] at hf; simp at hf
    unfold secN at hn
    have hpl := (hs.pts i hi).2.1
    rw [ref38_First_L3eq]
    simp only [STD, idx_lt hi, idx_nn, and_self, p_ref38_Ends (hs.pts i hi).2.2 (hs.pts i hi).1 (by omega), p_ref38_Near a b c h1 (show t ≤ 400000 by omega), hn, wsucc hi (by omega)]) (fun i r hi hf => by
    obtain ⟨a, b, c⟩ := rad_ends (hs.pts i hi).2.2 (hs.pts i hi).1
    have hn : secN l ax ay t i = false ∧ r = (1, [.i (i : Int)]) := by
      cases h : secN l ax ay t i with
      | true => rw [h] at hf; simp at hf
      | false => rw [h] at hf; simp at hf; exact ⟨rfl, hf.symm⟩
    unfold secN at hn
    have hpl := (hs.pts i hi).2.1
    rw [ref38_First_L3eq]
    simp only [STD, idx_lt hi, idx_nn, and_self, p_ref38_Ends (hs.pts i hi).2.2 (hs.pts i hi).1 (by omega), p_ref38_Near a b c h1 (show t ≤ 400000 by omega), hn.1, hn.2]) (by
    rw [ref38_First_L3eq]
    simp only [STD, idx_end])
  have k' : (loopT ref38_First_L3S [.r l, .i t, .i 0, .i ax, .i ay]).run = _ := k
  rw [scan_map] at k'
  unfold circN
  cases hsc : scan (fun i => if secN l ax ay t i = true then none else some i) 0 l.length with
  | none =>
    rw [hsc] at k'
    have k2 : (loopT ref38_First_L3S [.r l, .i t, .i 0, .i ax, .i ay]).run = some (0, [.r l]) := k'
    simp only [STD, k2, jIs_of k2, Option.getD_none]; rfl
  | some x =>
    rw [hsc] at k'
    have k2 : (loopT ref38_First_L3S [.r l, .i t, .i 0, .i ax, .i ay]).run = some (1, [.i (x : Int)]) := k'
    simp only [STD, k2, jIs_of k2, Option.getD_some, show ¬ ((1 : Nat) = 0) by decide]
theorem p_ref38_Circular (l : R) (ax ay t : Int) : (ref38_Circular_T [.r l, .i ax, .i ay, .i t]).run = some (0, circL l ax ay t) := by
  rw [ref38_Circular_eq]
  simp only [STD, p_ref38_Given, p_ref38_Tol]
  unfold circL
  by_cases hg : given l ax ay = 0
  · by_cases h6 : t < 0 ∨ 100000 < t
    · simp only [hg, h6, STD, if_true, show ¬ ((2 : Int) = 0) by decide]
    · have hs := secs_of hg
      have k2 : ieq (circN l ax ay t : Int) (rlen l) = decide (circN l ax ay t = l.length) := by
        unfold ieq rlen
        by_cases h : circN l ax ay t = l.length
        · simp [h]
        · rw [decide_eq_false h]; simp; omega
      simp only [hg, h6, STD, p_ref38_First hs (show 0 ≤ t by omega) (show t ≤ 100000 by omega), k2]
  · simp only [hg, STD]
theorem ref_least_loop {lo hi : Int} (h1 : 0 ≤ lo) (h2 : lo ≤ hi) (h3 : hi ≤ 80000000000) : ∀ (n : Nat) (m : Nat) (a b : Int), -1 ≤ a → a < leastT lo hi → (leastT lo hi : Int) ≤ b → b ≤ 400000 → b - a ≤ n → n < m →
    (iterT ref38_Least_L8S m [.i lo, .i hi, .i a, .i b]).run = some (0, [.i (leastT lo hi)])
  | n, m, a, b, ha, hal, hlb, hb, hn, hm => by
    obtain ⟨m, rfl⟩ : ∃ m', m = m' + 1 := ⟨m - 1, by omega⟩
    obtain ⟨s1, s2, s3⟩ := leastT_spec h1 h3
    have e0 : wsub .i64 b a = b - a := wsub_eq (by omega)
    by_cases hab : 1 < b - a
    · obtain ⟨n, rfl⟩ : ∃ n', n = n' + 1 := ⟨n - 1, by omega⟩
      have e1 : wadd .i64 a b = a + b := wadd_eq (by omega)
      have e2 : wquo .i64 (a + b) 2 = (a + b) / 2 := by
        unfold wquo; rw [Int.tdiv_eq_ediv_of_nonneg (by omega)]
        have := wadd_eq (x := (a + b) / 2) (y := 0) (by omega)
        unfold wadd at this; rwa [Int.add_zero] at this
      have hmid : 0 ≤ (a + b) / 2 ∧ (a + b) / 2 ≤ 400000 := by omega
      by_cases hnear : nearP lo hi ((a + b) / 2)
      · have hS : (ref38_Least_L8S [.i lo, .i hi, .i a, .i b]).run = some (0, [.i lo, .i hi, .i a, .i ((a + b) / 2)]) := by
          rw [ref38_Least_L8eq]
          simp only [STD, e0, hab, e1, e2, p_ref38_Near h1 h2 h3 hmid.1 hmid.2, hnear, decide_true]
        have hle : (leastT lo hi : Int) ≤ (a + b) / 2 := by
          have := s2 ((a + b) / 2).toNat (by rw [Int.toNat_of_nonneg hmid.1]; exact hnear)
          omega
        rw [iterT_go hS]
        exact ref_least_loop h1 h2 h3 n m a ((a + b) / 2) ha hal hle (by omega) (by omega) (by omega)
      · have hS : (ref38_Least_L8S [.i lo, .i hi, .i a, .i b]).run = some (0, [.i lo, .i hi, .i ((a + b) / 2), .i b]) := by
          rw [ref38_Least_L8eq]
          simp only [STD, e0, hab, e1, e2, p_ref38_Near h1 h2 h3 hmid.1 hmid.2, hnear, decide_false]
        have hle : (a + b) / 2 < (leastT lo hi : Int) := by
          by_cases h : (leastT lo hi : Int) ≤ (a + b) / 2
          · exact absurd (near_mono h1 (by omega) h s1) hnear
          · omega
        rw [iterT_go hS]
        exact ref_least_loop h1 h2 h3 n m ((a + b) / 2) b (by omega) hle hlb hb (by omega) (by omega)
    · have : b = leastT lo hi := by omega
      have hS : (ref38_Least_L8S [.i lo, .i hi, .i a, .i b]).run = some (0 + 1, [.i (leastT lo hi)]) := by
        rw [ref38_Least_L8eq]
        simp only [STD, e0, hab]
        rw [this]
      rw [iterT_end hS]
theorem p_ref38_Least (l : R) (ax ay : Int) : (ref38_Least_T [.r l, .i ax, .i ay]).run = some (0, lstL l ax ay) := by
  rw [ref38_Least_eq]
  simp only [STD, p_ref38_Given]
  unfold lstL
  by_cases hg : given l ax ay = 0
  · have hs := secs_of hg
    obtain ⟨a, b, c⟩ := all_ends hs
    obtain ⟨_, _, s3⟩ := leastT_spec a c
    have e : (loopT ref38_Least_L8S [.i (mn (allRad ax ay l)), .i (mx (allRad ax ay l)), .i (-1), .i 400000]).run = some (0, [.i (leastT (mn (allRad ax ay l)) (mx (allRad ax ay l)))]) :=
      ref_least_loop a b c 400001 rounds (-1) 400000 (by omega) (by omega) (by omega) (by omega) (by omega) (by unfold rounds; decide)
    simp only [hg, STD, p_ref38_All hs.le (fun i hi => (hs.pts i hi).2.1), p_ref38_EndsAll hs, e]
  · simp only [hg, STD]
/-! the reference's own sections -/
theorem allRad_own (ax ay : Int) (l : R) : allRad ax ay (ownR l) = allRad ax ay l := by
  unfold allRad
  rw [own_len]
  congr 1
  exact List.map_congr_left fun i hi => by rw [own_cR (List.mem_range.1 hi)]
theorem circN_own (l : R) (ax ay t : Int) : circN (ownR l) ax ay t = circN l ax ay t := by
  unfold circN
  rw [own_len, scan_congr (g := fun i => if secN l ax ay t i = true then none else some i) fun j _ hj => by
    unfold secN; rw [own_cR (by omega)]]
theorem circL_own (l : R) (ax ay t : Int) : circL (ownR l) ax ay t = circL l ax ay t := by
  unfold circL; rw [given_own, circN_own, own_len]
theorem totL_own (l : R) (ax ay t : Int) : totL (ownR l) ax ay t = totL l ax ay t := by
  unfold totL; rw [given_own, allRad_own]
theorem lstL_own (l : R) (ax ay : Int) : lstL (ownR l) ax ay = lstL l ax ay := by
  unfold lstL; rw [given_own, allRad_own]
theorem circL_form (l : R) (ax ay t : Int) : ∃ a b c, circL l ax ay t = [.b a, .i b, .i c] := by
  unfold circL; repeat' split
  all_goals exact ⟨_, _, _, rfl⟩
theorem totL_form (l : R) (ax ay t : Int) : ∃ a b, totL l ax ay t = [.b a, .i b] := by
  unfold totL; repeat' split
  all_goals exact ⟨_, _, rfl⟩
theorem lstL_form (l : R) (ax ay : Int) : ∃ a b, lstL l ax ay = [.i a, .i b] := by
  unfold lstL; split
  all_goals exact ⟨_, _, rfl⟩
theorem plainRunoutJudges (x0 : R) (x1 : Int) (x2 : Int) (x3 : Int) (lex0 : UFit (.sl [(.int .i64), (.sl [(.int .i64), (.int .i64)])]) (.l x0)) (wex0 : x0.length * 32 ≤ 140737488351232) (lox1 : IntKind.min .i64 ≤ x1) (hix1 : x1 ≤ IntKind.max .i64) (lox2 : IntKind.min .i64 ≤ x2) (hix2 : x2 ≤ IntKind.max .i64) (lox3 : IntKind.min .i64 ≤ x3) (hix3 : x3 ≤ IntKind.max .i64) : (law38_RunoutJudges_T [.r x0, .i x1, .i x2, .i x3]).run = some (0, [.b true]) := by
  rw [law38_RunoutJudges_eq]
  obtain ⟨few, hf, _⟩ := p_ref38_Few (ownR x0)
  obtain ⟨a, b, c, h1⟩ := circL_form x0 x1 x2 x3
  obtain ⟨d, e, h2⟩ := totL_form x0 x1 x2 x3
  obtain ⟨f, g, h3⟩ := lstL_form x0 x1 x2
  simp only [STD, p_law38_own x0 (by omega), hf, p_law38_awake, p_runout_Circular, p_ref38_Circular, p_runout_Total, p_ref38_Total, p_runout_Least, p_ref38_Least, circL_own, totL_own, lstL_own, h1, h2, h3]
  cases few <;> simp [ieq]
end Go.Eng
