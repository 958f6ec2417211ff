import Derived.Test.YtjebekbdjlooiaaPRun2
namespace Go.Eng
theorem sq_nn (x : Int) : 0 ≤ x * x := by
  rcases (show 0 ≤ x ∨ 0 ≤ -x by omega) with h | h
  · exact Int.mul_nonneg h h
  · have := Int.mul_nonneg h h; rwa [Int.neg_mul_neg] at this
theorem sq_mono {x y : Int} (h0 : 0 ≤ x) (h : x ≤ y) : x * x ≤ y * y := Int.mul_le_mul h h h0 (by omega)
theorem p_wide_most (a b c d : Int) (hb : 0 ≤ b ∧ b < 1099511627776) (hd : 0 ≤ d ∧ d < 1099511627776) :
    (runout_wide_most_T [.i a, .i b, .i c, .i d]).run = some (0, [.b (decide (a * 1099511627776 + b ≤ c * 1099511627776 + d))]) := by
  rw [runout_wide_most_eq]
  simp only [STD]
  by_cases h1 : a < c
  · rw [if_pos h1, decide_eq_true (by omega)]
  · rw [if_neg h1]
    by_cases h2 : a = c
    · rw [if_pos h2]; subst h2
      by_cases h3 : b ≤ d
      · simp [ile, h3]
      · simp [ile, h3]
    · rw [if_neg h2, decide_eq_false (by omega)]
theorem p_runout_near {lo hi t : Int} (h1 : 0 ≤ lo) (h2 : lo ≤ hi) (h3 : hi ≤ 80000000000) (h4 : 0 ≤ t) (h5 : t ≤ 400000) : (runout_near_T [.i lo, .i hi, .i t]).run = some (0, [.b (decide (nearP lo hi t))]) := by
  have ht := mulB (a := t) (b := t) (A := 400000) (B := 400000) (by omega) h5 (by omega) h5
  have ht0 := sq_nn t
  have e1 : wsub .i64 hi lo = hi - lo := wsub_eq (by omega)
  have e2 : wmul .i64 t t = t * t := wmul_eq (by omega)
  have e3 : wsub .i64 (hi - lo) (t * t) = hi - lo - t * t := wsub_eq (by omega)
  have e4 : wmul .i64 4 t = 4 * t := wmul_eq (by omega)
  have e4' : 4 * t * t = 4 * (t * t) := Int.mul_assoc _ _ _
  have e5 : wmul .i64 (4 * t) t = 4 * t * t := wmul_eq (by rw [e4']; omega)
  rw [runout_near_eq]
  simp only [STD, e1, e2, e3, e4, e5]
  by_cases hd : hi - lo - t * t ≤ 0
  · rw [if_pos hd, decide_eq_true (show nearP lo hi t from .inl hd)]
  · have hdd : 0 < (hi - lo - t * t) * (hi - lo - t * t) := Int.mul_pos (by omega) (by omega)
    by_cases hn : 4 * t * t = 0
    · rw [if_neg hd, if_pos hn, decide_eq_false fun h => ?_]
      rcases h with h | h
      · exact hd h
      · rw [hn, Int.zero_mul] at h; omega
    · by_cases hl : lo = 0
      · rw [if_neg hd, if_neg hn, if_pos hl, decide_eq_false fun h => ?_]
        rcases h with h | h
        · exact hd h
        · rw [show 4 * t * t * lo = 0 by rw [hl, Int.mul_zero]] at h; omega
      · obtain ⟨a, b, f1, f2, f3, f4⟩ := p_times (a := hi - lo - t * t) (b := hi - lo - t * t) (by omega) (by omega) (by omega) (by omega)
        obtain ⟨c, d, g1, g2, g3, g4⟩ := p_times (a := 4 * t * t) (b := lo) (by rw [e4']; omega) (by rw [e4']; omega) (by omega) (by omega)
        have hdec : decide (nearP lo hi t) = decide ((hi - lo - t * t) * (hi - lo - t * t) ≤ 4 * t * t * lo) := by
          by_cases hq : (hi - lo - t * t) * (hi - lo - t * t) ≤ 4 * t * t * lo
          · rw [decide_eq_true hq, decide_eq_true (show nearP lo hi t from .inr hq)]
          · rw [decide_eq_false hq, decide_eq_false fun h => ?_]
            rcases h with h | h
            · exact hd h
            · exact hq h
        rw [hdec, if_neg hd, if_neg hn, if_neg hl]
        have hm := p_wide_most a b c d ⟨f3, f4⟩ ⟨g3, g4⟩
        rw [f2, g2] at hm
        simp only [STD, f1, g1, hm]
theorem near_mono {lo hi t s : Int} (h1 : 0 ≤ lo) (h4 : 0 ≤ t) (hs : t ≤ s) (h : nearP lo hi t) : nearP lo hi s := by
  have hts := sq_mono h4 hs
  unfold nearP at *
  by_cases hd : hi - lo - s * s ≤ 0
  · exact .inl hd
  · rcases h with h | h
    · omega
    · right
      have a1 : (hi - lo - s * s) * (hi - lo - s * s) ≤ (hi - lo - t * t) * (hi - lo - t * t) := sq_mono (by omega) (by omega)
      have a2 : 4 * t * t * lo ≤ 4 * s * s * lo := by
        rw [Int.mul_assoc 4 t t, Int.mul_assoc 4 s s]
        exact Int.mul_le_mul_of_nonneg_right (by omega) h1
      omega
theorem near_sub {lo hi lo' hi' t : Int} (h1 : lo ≤ lo') (h2 : hi' ≤ hi) (h : nearP lo hi t) : nearP lo' hi' t := by
  unfold nearP at *
  by_cases hd : hi' - lo' - t * t ≤ 0
  · exact .inl hd
  · rcases h with h | h
    · omega
    · right
      have a1 : (hi' - lo' - t * t) * (hi' - lo' - t * t) ≤ (hi - lo - t * t) * (hi - lo - t * t) := sq_mono (by omega) (by omega)
      have a2 : 4 * t * t * lo ≤ 4 * t * t * lo' := by
        rw [Int.mul_assoc 4 t t]
        exact Int.mul_le_mul_of_nonneg_left h1 (by have := sq_nn t; omega)
      omega
theorem near_far {lo hi : Int} (h1 : 0 ≤ lo) (h3 : hi ≤ 80000000000) : nearP lo hi 400000 := .inl (by omega)
/-! ### Differ -/
def diffL (lo hi t : Int) : List PV :=
  if lo < 0 ∨ 80000000000 < lo ∨ hi < 0 ∨ 80000000000 < hi then [.b false, .i 2] else if hi < lo then [.b false, .i 9] else if t < 0 ∨ 100000 < t then [.b false, .i 2] else [.b (decide (nearP lo hi t)), .i 0]
theorem p_runout_tolerance (t : Int) : (runout_tolerance_T [.i t]).run = some (0, [.b (decide (0 ≤ t ∧ t ≤ 100000))]) := by
  rw [runout_tolerance_eq]; simp only [STD]; by_cases h : 0 ≤ t <;> simp [h, ile]
theorem p_runout_Differ (lo hi t : Int) : (runout_Differ_T [.i lo, .i hi, .i t]).run = some (0, diffL lo hi t) := by
  rw [runout_Differ_eq]
  simp only [STD, p_runout_tolerance]
  unfold diffL
  by_cases h1 : lo < 0
  · simp [h1]
  by_cases h2 : 80000000000 < lo
  · simp [h1, h2]
  by_cases h3 : hi < 0
  · simp [h1, h2, h3]
  by_cases h4 : 80000000000 < hi
  · simp [h1, h2, h3, h4]
  by_cases h5 : hi < lo
  · simp [h1, h2, h3, h4, h5]
  by_cases h6 : 0 ≤ t ∧ t ≤ 100000
  · simp only [h1, h2, h3, h4, h5, h6, STD, p_runout_near (lo := lo) (hi := hi) (t := t) (by omega) (by omega) (by omega) (by omega) (by omega), and_self, or_self, show ¬ (t < 0 ∨ 100000 < t) by omega]
  · simp only [h1, h2, h3, h4, h5, h6, STD, or_self, show (t < 0 ∨ 100000 < t) by omega]
theorem near_sq {a b t : Int} (ha : 0 ≤ a) (hb : a ≤ b) (ht : 0 ≤ t) : nearP (a * a) (b * b) t ↔ b - a ≤ t := by
  unfold nearP
  have hta := Int.mul_nonneg ht ha
  constructor
  · intro h
    have key : b * b - a * a - t * t ≤ 2 * (t * a) := by
      rcases h with h | h
      · omega
      · by_cases hd : b * b - a * a - t * t ≤ 2 * (t * a)
        · exact hd
        · have := sq_mono (x := 2 * (t * a) + 1) (y := b * b - a * a - t * t) (by omega) (by omega)
          have e : 4 * t * t * (a * a) = (2 * (t * a)) * (2 * (t * a)) := by grind
          have e2 : (2 * (t * a) + 1) * (2 * (t * a) + 1) = (2 * (t * a)) * (2 * (t * a)) + 4 * (t * a) + 1 := by grind
          omega
    by_cases hlt : b - a ≤ t
    · exact hlt
    · have := sq_mono (x := a + t + 1) (y := b) (by omega) (by omega)
      have e : (a + t + 1) * (a + t + 1) = a * a + t * t + 2 * (t * a) + 2 * a + 2 * t + 1 := by grind
      omega
  · intro h
    have h1 := sq_mono (x := b) (y := a + t) (by omega) (by omega)
    have e : (a + t) * (a + t) = a * a + t * t + 2 * (t * a) := by grind
    by_cases hd : b * b - a * a - t * t ≤ 0
    · exact .inl hd
    · right
      have := sq_mono (x := b * b - a * a - t * t) (y := 2 * (t * a)) (by omega) (by omega)
      have e2 : 4 * t * t * (a * a) = (2 * (t * a)) * (2 * (t * a)) := by grind
      omega
/-! ### sections -/
theorem given_zero {l : R} {x y : Int} (h : given l x y = 0) : schk l = 0 ∧ ptE x y = 0 := by
  unfold given at h; split at h
  · exact ⟨by assumption, h⟩
  · rename_i h1; exact absurd h h1
structure Secs (ax ay : Int) (l : R) : Prop where
  pos : 0 < l.length
  le : l.length ≤ 32
  axis : ptE ax ay = 0
  pts : ∀ i : Nat, i < l.length → 0 < (cR l i 1).length ∧ (cR l i 1).length ≤ 64 ∧ okP ax ay (cR l i 1)
theorem secs_of {l : R} {x y : Int} (h : given l x y = 0) : Secs x y l := by
  obtain ⟨h1, h2⟩ := given_zero h
  unfold schk at h1
  split at h1
  · omega
  · split at h1
    · omega
    · rename_i a b
      unfold rlen at a b
      refine ⟨by omega, by omega, h2, fun i hi => ?_⟩
      have := firstE_zero h1 i hi
      unfold secE at this
      split at this
      · omega
      · split at this
        · omega
        · split at this
          · omega
          · rename_i c
            unfold vchk at this
            split at this
            · omega
            · rename_i d
              unfold rlen at c d
              exact ⟨by omega, by omega, h2, firstE_zero this⟩
def allRad (ax ay : Int) (l : R) : List Int := ((List.range l.length).map fun i : Nat => rad ax ay (cR l (i : Int) 1)).flatten
theorem mem_rad {ax ay : Int} {l : R} {x : Int} : x ∈ rad ax ay l ↔ ∃ j, j < l.length ∧ x = far ax ay l j := by
  unfold rad
  simp only [List.mem_map, List.mem_range]
  exact ⟨fun ⟨j, h1, h2⟩ => ⟨j, h1, h2.symm⟩, fun ⟨j, h1, h2⟩ => ⟨j, h1, h2.symm⟩⟩
theorem mem_allRad {ax ay : Int} {l : R} {x : Int} : x ∈ allRad ax ay l ↔ ∃ i : Nat, i < l.length ∧ x ∈ rad ax ay (cR l i 1) := by
  unfold allRad
  simp only [List.mem_flatten, List.mem_map, List.mem_range]
  exact ⟨fun ⟨a, ⟨i, h1, h2⟩, h3⟩ => ⟨i, h1, h2 ▸ h3⟩, fun ⟨i, h1, h2⟩ => ⟨_, ⟨i, h1, rfl⟩, h2⟩⟩
theorem rad_b {ax ay : Int} {l : R} (h : okP ax ay l) {x : Int} (hx : x ∈ rad ax ay l) : 0 ≤ x ∧ x ≤ 80000000000 := by
  obtain ⟨j, h1, rfl⟩ := mem_rad.1 hx
  have := far_w h.1 (h.2 j h1)
  exact this.2
theorem rad_ne {ax ay : Int} {l : R} (h : 0 < l.length) : rad ax ay l ≠ [] := by
  intro e
  have := rad_len ax ay l
  rw [e] at this; simp at this; omega
theorem allRad_ne {ax ay : Int} {l : R} (h : Secs ax ay l) : allRad ax ay l ≠ [] := by
  have h0 := (h.pts 0 h.pos).1
  have : far ax ay (cR l (0 : Nat) 1) 0 ∈ allRad ax ay l := mem_allRad.2 ⟨0, h.pos, mem_rad.2 ⟨0, h0, rfl⟩⟩
  intro e; rw [e] at this; cases this
theorem rad_ends {ax ay : Int} {l : R} (h : okP ax ay l) (h0 : 0 < l.length) : 0 ≤ mn (rad ax ay l) ∧ mn (rad ax ay l) ≤ mx (rad ax ay l) ∧ mx (rad ax ay l) ≤ 80000000000 := by
  have a := mn_mem (rad_ne (ax := ax) (ay := ay) h0)
  exact ⟨(rad_b h a).1, le_mx a, (rad_b h (mx_mem (rad_ne h0))).2⟩
theorem all_ends {ax ay : Int} {l : R} (h : Secs ax ay l) : 0 ≤ mn (allRad ax ay l) ∧ mn (allRad ax ay l) ≤ mx (allRad ax ay l) ∧ mx (allRad ax ay l) ≤ 80000000000 := by
  have a := mn_mem (allRad_ne h)
  have b := mx_mem (allRad_ne h)
  obtain ⟨i, h1, h2⟩ := mem_allRad.1 a
  obtain ⟨j, h3, h4⟩ := mem_allRad.1 b
  exact ⟨(rad_b (h.pts i h1).2.2 h2).1, le_mx a, (rad_b (h.pts j h3).2.2 h4).2⟩
theorem p_runout_ends {ax ay : Int} {l : R} (h : Secs ax ay l) : (runout_ends_T [.r l, .i ax, .i ay]).run = some (0, [.i (mn (allRad ax ay l)), .i (mx (allRad ax ay l))]) := by
  rw [runout_ends_eq]
  have hl := h.le
  have k := loop_count (S := runout_ends_L4S) (fun i => [.r l, .i (rlen l), .i (i : Int), .i ax, .i ay, .r (mapR (fun i => [.l (cR l i 1)]) i)]) (0, [.i ax, .i ay, .r (mapR (fun i => [.l (cR l i 1)]) l.length)]) l.length (by omega) (fun i hi => by
    rw [runout_ends_L4eq]
    simp only [STD, idx_lt hi, idx_nn, and_self, wsucc hi (by omega)]
    rw [if_pos (mapR_room hi (by omega) _), ← mapR_succ]) (by
    rw [runout_ends_L4eq]
    simp only [STD, idx_end])
  have k' : (loopT runout_ends_L4S [.r l, .i (rlen l), .i 0, .i ax, .i ay, .r []]).run = _ := k
  have hc : ∀ i : Nat, i < l.length → cR (mapR (fun i => [.l (cR l i 1)]) l.length) i 0 = cR l i 1 := fun i hi => by rw [cR_mapR _ hi]; rfl
  have hA : radAt ax ay (mapR (fun i => [.l (cR l i 1)]) l.length) (mapR (fun i => [.l (cR l i 1)]) l.length).length = allRad ax ay l := by
    unfold radAt allRad
    rw [mapR_len]
    congr 1
    exact List.map_congr_left fun i hi => by rw [hc i (List.mem_range.1 hi)]
  have hne := allRad_ne h
  have hlen : 0 < (allRad ax ay l).length := List.length_pos_iff.2 hne
  have e := p_runout_radii (ax := ax) (ay := ay) (m := mapR (fun i => [.l (cR l i 1)]) l.length) (by rw [mapR_len]; omega) (fun i hi => by rw [mapR_len] at hi; rw [hc i hi]; exact (h.pts i hi).2.2)
    (fun i hi => by rw [mapR_len] at hi; rw [hc i hi]; exact (h.pts i hi).2.1) (by rw [hA]; exact hlen)
  rw [hA] at e
  simp only [STD, k', e]
def totL (l : R) (ax ay t : Int) : List PV :=
  if given l ax ay ≠ 0 then [.b false, .i (given l ax ay)] else if t < 0 ∨ 100000 < t then [.b false, .i 2] else [.b (decide (nearP (mn (allRad ax ay l)) (mx (allRad ax ay l)) t)), .i 0]
theorem p_runout_Total (l : R) (ax ay t : Int) : (runout_Total_T [.r l, .i ax, .i ay, .i t]).run = some (0, totL l ax ay t) := by
  rw [runout_Total_eq]
  simp only [STD, p_runout_check, p_runout_tolerance]
  unfold totL
  by_cases hg : given l ax ay = 0
  · by_cases h6 : 0 ≤ t ∧ t ≤ 100000
    · have hs := secs_of hg
      obtain ⟨a, b, c⟩ := all_ends hs
      simp only [hg, h6, STD, p_runout_ends hs, p_runout_near a b c h6.1 (show t ≤ 400000 by omega), and_self, show ¬ (t < 0 ∨ 100000 < t) by omega]
    · simp only [hg, h6, STD, show (t < 0 ∨ 100000 < t) by omega]
  · simp only [hg, STD]
/-! ### each section -/
def secN (l : R) (ax ay t : Int) (i : Nat) : Bool := decide (nearP (mn (rad ax ay (cR l i 1))) (mx (rad ax ay (cR l i 1))) t)
def circN (l : R) (ax ay t : Int) : Nat := (scan (fun i => if secN l ax ay t i = true then none else some i) 0 l.length).getD l.length
theorem p_radii_one {ax ay : Int} {l : R} (h : okP ax ay l) (h0 : 0 < l.length) (hl : l.length ≤ 64) : (runout_radii_T [.i ax, .i ay, .r [[.l l]]]).run = some (0, [.i (mn (rad ax ay l)), .i (mx (rad ax ay l))]) := by
  have hc : ∀ i : Nat, i < [[U.l l]].length → cR [[.l l]] i 0 = l := fun i hi => by
    have : i = 0 := by simp at hi; exact hi
    subst this; rfl
  have hA : radAt ax ay [[.l l]] [[U.l l]].length = rad ax ay l := by
    have e : radAt ax ay [[.l l]] 1 = radAt ax ay [[.l l]] 0 ++ rad ax ay (cR [[.l l]] (0 : Nat) 0) := radAt_succ _ _ _ _
    show radAt ax ay [[.l l]] 1 = _
    rw [e]; rfl
  have e := p_runout_radii (ax := ax) (ay := ay) (m := [[.l l]]) (by simp) (fun i hi => by rw [hc i hi]; exact h) (fun i hi => by rw [hc i hi]; exact hl) (by rw [hA, rad_len]; exact h0)
  rw [hA] at e
  exact e
theorem scan_lt {f : Nat → Option Nat} (hf : ∀ i x, f i = some x → x = i) : ∀ {k i x : Nat}, scan f i k = some x → i ≤ x ∧ x < i + k ∧ f x ≠ none
  | 0, i, x, h => by cases h
  | k + 1, i, x, h => by
    simp only [scan] at h
    cases hi : f i with
    | some a =>
      rw [hi] at h
      simp only [Option.some.injEq] at h
      have := hf i a hi
      subst h; subst this
      exact ⟨Nat.le_refl _, by omega, by rw [hi]; simp⟩
    | none =>
      rw [hi] at h
      obtain ⟨h1, h2, h3⟩ := scan_lt hf h
      exact ⟨by omega, by omega, h3⟩
def circL (l : R) (ax ay t : Int) : List PV :=
  if given l ax ay ≠ 0 then [.b false, .i 0, .i (given l ax ay)] else if t < 0 ∨ 100000 < t then [.b false, .i 0, .i 2] else [.b (decide (circN l ax ay t = l.length)), .i (circN l ax ay t), .i 0]
theorem p_runout_Circular (l : R) (ax ay t : Int) : (runout_Circular_T [.r l, .i ax, .i ay, .i t]).run = some (0, circL l ax ay t) := by
  rw [runout_Circular_eq]
  simp only [STD, p_runout_check, p_runout_tolerance]
  unfold circL
  by_cases hg : given l ax ay = 0
  · by_cases h6 : 0 ≤ t ∧ t ≤ 100000
    · have hs := secs_of hg
      have hl := hs.le
      have k := loop_scan (S := runout_Circular_L10S) (fun i => [.r l, .i t, .r l, .i (rlen l), .i (i : Int), .i ax, .i ay]) (fun i => (if secN l ax ay t i = true then none else some i).map fun i : Nat => (1, [.b false, .i (i : Int), .i 0])) (0, [.r l]) l.length (by omega) (fun i hi hf => by
        obtain ⟨a, b, c⟩ := rad_ends (hs.pts i hi).2.2 (hs.pts i hi).1
        have hn : secN l ax ay t i = true := by
          cases h : secN l ax ay t i with
          | true => rfl
          | false => rw [h] at hf; simp at hf
        unfold secN at hn
        rw [runout_Circular_L10eq]
        simp only [STD, idx_lt hi, idx_nn, and_self, p_radii_one (hs.pts i hi).2.2 (hs.pts i hi).1 (hs.pts i hi).2.1, p_runout_near a b c h6.1 (show t ≤ 400000 by omega), hn, wsucc hi (by omega)]) (fun i r hi hf => by
        obtain ⟨a, b, c⟩ := rad_ends (hs.pts i hi).2.2 (hs.pts i hi).1
        have hn : secN l ax ay t i = false ∧ r = (1, [.b false, .i (i : Int), .i 0]) := by
          cases h : secN l ax ay t i with
          | true => rw [h] at hf; simp at hf
          | false => rw [h] at hf; simp at hf; exact ⟨rfl, hf.symm⟩
        unfold secN at hn
        rw [runout_Circular_L10eq]
        simp only [STD, idx_lt hi, idx_nn, and_self, p_radii_one (hs.pts i hi).2.2 (hs.pts i hi).1 (hs.pts i hi).2.1, p_runout_near a b c h6.1 (show t ≤ 400000 by omega), hn.1, hn.2]) (by
        rw [runout_Circular_L10eq]
        simp only [STD, idx_end])
      have k' : (loopT runout_Circular_L10S [.r l, .i t, .r l, .i (rlen l), .i 0, .i ax, .i ay]).run = _ := k
      rw [scan_map] at k'
      unfold circN
      cases hsc : scan (fun i => if secN l ax ay t i = true then none else some i) 0 l.length with
      | none =>
        rw [hsc] at k'
        have k2 : (loopT runout_Circular_L10S [.r l, .i t, .r l, .i (rlen l), .i 0, .i ax, .i ay]).run = some (0, [.r l]) := k'
        simp only [hg, h6, STD, k2, jIs_of k2, and_self, show ¬ (t < 0 ∨ 100000 < t) by omega, Option.getD_none, decide_true]; rfl
      | some x =>
        rw [hsc] at k'
        have k2 : (loopT runout_Circular_L10S [.r l, .i t, .r l, .i (rlen l), .i 0, .i ax, .i ay]).run = some (1, [.b false, .i (x : Int), .i 0]) := k'
        obtain ⟨_, hx, _⟩ := scan_lt (fun i x h => by split at h <;> simp at h; exact h.symm) hsc
        simp only [hg, h6, STD, k2, jIs_of k2, and_self, show ¬ (t < 0 ∨ 100000 < t) by omega, Option.getD_some, show ¬ ((1 : Nat) = 0) by decide, show ¬ (x = l.length) by omega, decide_false]
    · simp only [hg, h6, STD, show (t < 0 ∨ 100000 < t) by omega]
  · simp only [hg, STD]
theorem circN_all {l : R} {ax ay t : Int} (h : ∀ i, i < l.length → secN l ax ay t i = true) : circN l ax ay t = l.length := by
  unfold circN
  rw [scan_congr (g := fun _ => none) (fun j _ hj => by rw [if_pos (h j (by omega))]), scan_unit]; rfl
theorem circN_inv {l : R} {ax ay t : Int} (h : circN l ax ay t = l.length) : ∀ i, i < l.length → secN l ax ay t i = true := by
  intro i hi
  unfold circN at h
  cases hsc : scan (fun i => if secN l ax ay t i = true then none else some i) 0 l.length with
  | none =>
    have := scan_none hsc i (by omega) (by omega)
    split at this
    · assumption
    · cases this
  | some x =>
    rw [hsc] at h
    obtain ⟨_, hx, _⟩ := scan_lt (fun i x h => by split at h <;> simp at h; exact h.symm) hsc
    simp at h; omega
/-! ### Least -/
noncomputable def leastT (lo hi : Int) : Nat := leastOf fun n : Nat => nearP lo hi (n : Int)
theorem leastT_spec {lo hi : Int} (h1 : 0 ≤ lo) (h3 : hi ≤ 80000000000) : nearP lo hi (leastT lo hi) ∧ (∀ n : Nat, nearP lo hi n → leastT lo hi ≤ n) ∧ leastT lo hi ≤ 400000 := by
  have hex : ∃ n : Nat, nearP lo hi (n : Int) := ⟨400000, near_far h1 h3⟩
  obtain ⟨a, b⟩ := leastOf_spec hex
  exact ⟨a, b, b 400000 (near_far h1 h3)⟩
theorem least_loop {lo hi : Int} (h1 : 0 ≤ lo) (h2 : lo ≤ hi) (h3 : hi ≤ 80000000000) : ∀ (n : Nat) (m : Nat) (a b : Int), 0 ≤ a → a ≤ leastT lo hi → (leastT lo hi : Int) ≤ b → b ≤ 400000 → b - a ≤ n → n < m →
    (iterT runout_Least_L8S m [.i lo, .i hi, .i a, .i b]).run = some (0, [.i (leastT lo hi)])
  | n, m, a, b, ha, hal, hlb, hb, hn, hm => by
    obtain ⟨m, rfl⟩ : ∃ m', m = m' + 1 := ⟨m - 1, by omega⟩
    obtain ⟨s1, s2, s3⟩ := leastT_spec h1 h3
    by_cases hab : a < b
    · obtain ⟨n, rfl⟩ : ∃ n', n = n' + 1 := ⟨n - 1, by omega⟩
      have e1 : wadd .i64 a b = a + b := wadd_eq (by omega)
      have e2 : wquo .i64 (a + b) 2 = (a + b) / 2 := by
        unfold wquo; rw [Int.tdiv_eq_ediv_of_nonneg (by omega)]
        have := wadd_eq (x := (a + b) / 2) (y := 0) (by omega)
        unfold wadd at this; rwa [Int.add_zero] at this
      have e3 : wadd .i64 ((a + b) / 2) 1 = (a + b) / 2 + 1 := wadd_eq (by omega)
      have hmid : 0 ≤ (a + b) / 2 ∧ (a + b) / 2 ≤ 400000 := by omega
      by_cases hnear : nearP lo hi ((a + b) / 2)
      · have hS : (runout_Least_L8S [.i lo, .i hi, .i a, .i b]).run = some (0, [.i lo, .i hi, .i a, .i ((a + b) / 2)]) := by
          rw [runout_Least_L8eq]
          simp only [STD, hab, e1, e2, p_runout_near h1 h2 h3 hmid.1 hmid.2, hnear, decide_true]
        have hle : (leastT lo hi : Int) ≤ (a + b) / 2 := by
          have := s2 ((a + b) / 2).toNat (by rw [Int.toNat_of_nonneg hmid.1]; exact hnear)
          omega
        rw [iterT_go hS]
        exact least_loop h1 h2 h3 n m a ((a + b) / 2) ha hal hle (by omega) (by omega) (by omega)
      · have hS : (runout_Least_L8S [.i lo, .i hi, .i a, .i b]).run = some (0, [.i lo, .i hi, .i ((a + b) / 2 + 1), .i b]) := by
          rw [runout_Least_L8eq]
          simp only [STD, hab, e1, e2, e3, p_runout_near h1 h2 h3 hmid.1 hmid.2, hnear, decide_false]
        have hle : (a + b) / 2 + 1 ≤ (leastT lo hi : Int) := by
          by_cases h : (leastT lo hi : Int) ≤ (a + b) / 2
          · exact absurd (near_mono h1 (by omega) h s1) hnear
          · omega
        rw [iterT_go hS]
        exact least_loop h1 h2 h3 n m ((a + b) / 2 + 1) b (by omega) hle hlb hb (by omega) (by omega)
    · have : a = leastT lo hi := by omega
      have hS : (runout_Least_L8S [.i lo, .i hi, .i a, .i b]).run = some (0 + 1, [.i (leastT lo hi)]) := by
        rw [runout_Least_L8eq]
        simp only [STD, hab, this]
        rw [if_neg (by omega)]
      rw [iterT_end hS]
noncomputable def lstL (l : R) (ax ay : Int) : List PV :=
  if given l ax ay ≠ 0 then [.i 0, .i (given l ax ay)] else [.i (leastT (mn (allRad ax ay l)) (mx (allRad ax ay l))), .i 0]
theorem p_runout_Least (l : R) (ax ay : Int) : (runout_Least_T [.r l, .i ax, .i ay]).run = some (0, lstL l ax ay) := by
  rw [runout_Least_eq]
  simp only [STD, p_runout_check]
  unfold lstL
  by_cases hg : given l ax ay = 0
  · have hs := secs_of hg
    obtain ⟨a, b, c⟩ := all_ends hs
    obtain ⟨_, _, s3⟩ := leastT_spec a c
    have e : (loopT runout_Least_L8S [.i (mn (allRad ax ay l)), .i (mx (allRad ax ay l)), .i 0, .i 400000]).run = some (0, [.i (leastT (mn (allRad ax ay l)) (mx (allRad ax ay l)))]) :=
      least_loop a b c 400000 rounds 0 400000 (by omega) (by omega) (by omega) (by omega) (by omega) (by unfold rounds; decide)
    simp only [hg, STD, p_runout_ends hs, e]
  · simp only [hg, STD]
end Go.Eng
