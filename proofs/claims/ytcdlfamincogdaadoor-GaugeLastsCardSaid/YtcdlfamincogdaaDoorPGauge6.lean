import Derived.Test.YtcdlfamincogdaaDoorPGauge5
namespace Go.Eng
theorem rset_mapR (g : Nat → List U) {n i : Nat} (hi : i < n) (u : U) {a b c d : U} (hg : g i = [a, b, c, d]) : rset (mapR g n) i 3 [u] = mapR (fun j => if j = i then [a, b, c, u] else g j) n := by
  unfold rset
  have e1 : (mapR g n).getD (i : Int).toNat [] = g i := by simp [mapR, List.getD_eq_getElem?_getD, hi]
  rw [e1, hg]
  have e2 : rowSet [a, b, c, d] 3 [u] = [a, b, c, u] := rfl
  rw [e2]
  unfold mapR
  apply List.ext_getElem?
  intro j
  rw [List.getElem?_set]
  by_cases hj : j = i
  · subst hj; simp [hi]
  · by_cases hjn : j < n
    · simp [Ne.symm hj, hj, hjn]
    · simp [Ne.symm hj, hjn]
theorem pick_get (p : Nat → Bool) : ∀ (n j : Nat), j < (pick p n).length → ∃ i, i < n ∧ p i = true ∧ cI (pick p n) (j : Int) 0 = i
  | 0, j, h => by simp [pick] at h
  | n + 1, j, h => by
    unfold pick at h ⊢
    split at h
    · rename_i hp
      rw [if_pos hp]
      rcases Nat.lt_or_ge j (pick p n).length with h1 | h1
      · obtain ⟨i, h2, h3, h4⟩ := pick_get p n j h1
        refine ⟨i, by omega, h3, ?_⟩
        rw [← h4]
        unfold cI cellU rapp
        simp [List.getD_eq_getElem?_getD, List.getElem?_append_left h1]
      · have hj : j = (pick p n).length := by simp [rapp] at h; omega
        refine ⟨n, by omega, hp, ?_⟩
        unfold cI cellU rapp
        simp [List.getD_eq_getElem?_getD, hj, U.toI]
    · rename_i hp
      rw [if_neg hp]
      obtain ⟨i, h2, h3, h4⟩ := pick_get p n j h
      exact ⟨i, by omega, h3, h4⟩
/-- how many numbers below n a test picks -/
theorem pick_count (p : Nat → Bool) (n : Nat) : rlen (pick p (n + 1)) = rlen (pick p n) + (if p n = true then 1 else 0) := by
  show rlen (if p n = true then rapp (pick p n) [[.i (n : Int)]] else pick p n) = _
  split <;> simp [rlen, rapp]
section
variable {l : R} {w m : Int}
theorem des_safe (h : desC l w m = 0) : safeC l (desL l w m) = 0 ∧ maxF (lossHi l (desL l w m)) (desL l w m).length = w + m := by
  obtain ⟨hg, hw, hlo⟩ := desC_zero h
  obtain ⟨hp, hl, hv⟩ := gchk_zero hg
  have ed : desL l w m = mapR (desRow l w m) l.length := by unfold desL; rw [if_pos h]
  have hlen : (desL l w m).length = l.length := by rw [ed, mapR_len]
  have row : ∀ i, i < l.length → cI (desL l w m) i 0 = cI l i 0 ∧ cI (desL l w m) i 1 = cI l i 1 ∧ cB (desL l w m) i 2 = cB l i 6 ∧ cI (desL l w m) i 3 = desLo l w m i ∧ cI (desL l w m) i 4 = desHi l w m i := fun i hi => by
    have := desRow_I l w m hi; rw [← ed] at this; exact this
  have hls : ∀ i, i < l.length → lossE l (desL l w m) i = 0 := fun i hi => by
    obtain ⟨r0, r1, r2, r3, r4⟩ := row i hi
    have hs : sameAt l (desL l w m) i := by unfold sameAt; exact ⟨⟨r0, r1⟩, r2⟩
    unfold lossE
    rw [r3, r4, des_lim (hv i hi) hw (hlo i hi)]
    simp [hs]
  have hhi : ∀ i, i < l.length → lossHi l (desL l w m) i = w + m := fun i hi => by
    obtain ⟨r0, r1, r2, r3, r4⟩ := row i hi
    unfold lossHi; rw [r2, r3, r4]
    unfold desLo desHi
    cases cB l i 6 <;> simp <;> omega
  constructor
  · unfold safeC
    rw [hlen, firstE_of hls]
    have : rlen (desL l w m) = rlen l := by unfold rlen; rw [hlen]
    simp only [hg, this, ne_eq, not_true_eq_false, if_false]
    refine firstE_of fun i hi => ?_
    obtain ⟨r0, r1, r2, r3, r4⟩ := row i hi
    unfold negE lossLo; rw [r2, r3, r4]
    unfold desLo desHi
    cases cB l i 6 <;> simp <;> omega
  · rw [hlen, maxF_congr hhi]
    have key : ∀ n, 0 < n → maxF (fun _ => w + m) n = w + m := by
      intro n
      induction n with
      | zero => intro h; omega
      | succ n ih =>
        intro _
        simp only [maxF]
        rcases Nat.eq_zero_or_pos n with h0 | h0
        · subst h0
          show imax 0 (w + m) = w + m
          unfold imax
          by_cases q : w + m > 0
          · rw [if_pos q]
          · rw [if_neg q]; omega
        · rw [ih h0]; unfold imax; split <;> rfl
    exact key _ hp
/-- tools whose sizes have been turned -/
def tRow (l : R) (f : Nat → Int) (i : Nat) : List U := [.i (cI l i 0), .i (cI l i 1), .b (cB l i 6), .i (f i)]
theorem tRow_I (f : Nat → Int) {n i : Nat} (h : i < n) : cI (mapR (tRow l f) n) i 0 = cI l i 0 ∧ cI (mapR (tRow l f) n) i 1 = cI l i 1 ∧ cB (mapR (tRow l f) n) i 2 = cB l i 6 ∧ cI (mapR (tRow l f) n) i 3 = f i := by
  refine ⟨?_, ?_, ?_, ?_⟩
  · rw [cI_mapR _ h]; rfl
  · rw [cI_mapR _ h]; rfl
  · rw [cB_mapR _ h]; rfl
  · rw [cI_mapR _ h]; rfl
theorem made_tRow (h : desC l w m = 0) (high : Bool) : madeL (desL l w m) high = mapR (tRow l (msz l w m high)) l.length := by
  obtain ⟨_, h2, h3, _⟩ := madeL_des h high
  have ed : desL l w m = mapR (desRow l w m) l.length := by unfold desL; rw [if_pos h]
  rw [h2]
  refine mapR_congr fun i hi => ?_
  have := desRow_I l w m hi
  rw [← ed] at this
  obtain ⟨r0, r1, r2, r3, r4⟩ := this
  unfold madeRow tRow msz
  rw [r0, r1, r2, r3, r4]
theorem rset_tRow (f : Nat → Int) {n i : Nat} (hi : i < n) (v : Int) : rset (mapR (tRow l f) n) i 3 [.i v] = mapR (tRow l (fun j => if j = i then v else f j)) n := by
  rw [rset_mapR (tRow l f) hi (.i v) rfl]
  refine mapR_congr fun j _ => ?_
  unfold tRow
  by_cases hj : j = i
  · subst hj; simp
  · simp [hj]
/-- what Worn says of tools at the places of the targets -/
theorem worn_tRow (f : Nat → Int) (hg : gchk l = 0) (hf : ∀ i, i < l.length → 1 ≤ f i ∧ f i ≤ 300000) :
    wornC l (mapR (tRow l f) l.length) = 0 ∧ wornL l (mapR (tRow l f) l.length) = pick (fun i => if cB l i 6 = true then ilt (vsz l i) (f i) else ilt (f i) (vsz l i)) l.length := by
  have hc : wornC l (mapR (tRow l f) l.length) = 0 := by
    unfold wornC
    rw [rlen_mapR, mapR_len]
    simp only [hg, ne_eq, not_true_eq_false, if_false]
    rw [if_neg (by unfold rlen; simp)]
    refine firstE_of fun i hi => ?_
    obtain ⟨r0, r1, r2, r3⟩ := tRow_I (l := l) f hi
    have hs : sameAt l (mapR (tRow l f) l.length) i := by unfold sameAt; exact ⟨⟨r0, r1⟩, r2⟩
    unfold wornE
    rw [r3, if_neg (by have := hf i hi; omega), if_pos hs]
  refine ⟨hc, ?_⟩
  unfold wornL
  rw [if_pos hc, mapR_len]
  refine pick_congr fun i hi => ?_
  obtain ⟨r0, r1, r2, r3⟩ := tRow_I (l := l) f hi
  unfold wornB
  rw [r2, r3]
end
theorem pick_none {p : Nat → Bool} : ∀ {n : Nat}, (∀ i, i < n → p i = false) → pick p n = []
  | 0, _ => rfl
  | n + 1, h => by unfold pick; rw [h n (by omega), pick_none fun i hi => h i (by omega)]; simp
/-! ### GaugeLasts -/
def usz (l : R) (w m k : Int) (high : Bool) (i : Nat) : Int := if cB l i 6 = true then msz l w m high i + k else msz l w m high i - k
def badAt (f : Nat → Int) (i : Nat) : Option (Nat × List PV) := if f i < 1 then some (1, [.b true]) else none
theorem badAt_none {f : Nat → Int} {i : Nat} (h : badAt f i = none) : 1 ≤ f i := by
  unfold badAt at h; split at h
  · cases h
  · omega
theorem badAt_scan {f : Nat → Int} : ∀ {k i : Nat} {r : Nat × List PV}, scan (badAt f) i k = some r → r = (1, [.b true])
  | 0, _, _, h => by cases h
  | k + 1, i, r, h => by
    simp only [scan] at h
    unfold badAt at h
    by_cases h0 : f i < 1
    · rw [if_pos h0] at h; simp at h; exact h.symm
    · rw [if_neg h0] at h; exact badAt_scan h
section
variable {l : R} {w m : Int}
theorem msz_bound (h : desC l w m = 0) (high : Bool) {i : Nat} (hi : i < l.length) : 1 ≤ msz l w m high i ∧ msz l w m high i ≤ 300000 := by
  obtain ⟨hg, hw, hlo⟩ := desC_zero h
  obtain ⟨_, _, hv⟩ := gchk_zero hg
  obtain ⟨q1, q2, q3⟩ := limC_zero (des_lim (hv i hi) hw (hlo i hi))
  unfold msz; split <;> omega
theorem lasts_inner (h : desC l w m = 0) (high : Bool) (by0 k j5 : Int) (hk : 0 ≤ k ∧ k ≤ w) (tbl : R) :
    (loopT law47_GaugeLasts_L26S [.r l, .i by0, .r (desL l w m), .i k, .i 2, .i j5, .i (rlen (madeL (desL l w m) high)), .i 0, .i w, .i m, .r tbl, .r (madeL (desL l w m) high)]).run =
      some ((scan (badAt (usz l w m k high)) 0 l.length).getD (0, [.r l, .i by0, .r (desL l w m), .i 2, .i j5, .i w, .i m, .r tbl, .r (mapR (tRow l (usz l w m k high)) l.length)])) := by
  obtain ⟨hg, hw, hlo⟩ := desC_zero h
  obtain ⟨_, hl, hv⟩ := gchk_zero hg
  rw [made_tRow h high, rlen_mapR]
  have e0 : mapR (tRow l (msz l w m high)) l.length = mapR (tRow l (fun j => if j < 0 then usz l w m k high j else msz l w m high j)) l.length := mapR_congr fun i _ => by unfold tRow; simp
  rw [e0]
  have eN : mapR (tRow l (usz l w m k high)) l.length = mapR (tRow l (fun j => if j < l.length then usz l w m k high j else msz l w m high j)) l.length := mapR_congr fun i hi => by unfold tRow; simp [hi]
  rw [eN]
  have step : ∀ i, i < l.length → (law47_GaugeLasts_L26S [.r l, .i by0, .r (desL l w m), .i k, .i 2, .i j5, .i (l.length : Int), .i (i : Int), .i w, .i m, .r tbl, .r (mapR (tRow l (fun j => if j < i then usz l w m k high j else msz l w m high j)) l.length)]).run =
      if usz l w m k high i < 1 then some (2, [.b true]) else some (0, [.r l, .i by0, .r (desL l w m), .i k, .i 2, .i j5, .i (l.length : Int), .i ((i + 1 : Nat) : Int), .i w, .i m, .r tbl, .r (mapR (tRow l (fun j => if j < i + 1 then usz l w m k high j else msz l w m high j)) l.length)]) := by
    intro i hi
    have hb := msz_bound h high hi
    rw [law47_GaugeLasts_L26eq]
    obtain ⟨r0, r1, r2, r3⟩ := tRow_I (l := l) (fun j => if j < i then usz l w m k high j else msz l w m high j) hi
    simp only [Nat.lt_irrefl, if_false] at r3
    have i1 : (i : Int) < (l.length : Int) := by omega
    have hst : mapR (tRow l (fun j => if j = i then usz l w m k high i else if j < i then usz l w m k high j else msz l w m high j)) l.length = mapR (tRow l (fun j => if j < i + 1 then usz l w m k high j else msz l w m high j)) l.length := mapR_congr fun j _ => by
      unfold tRow
      by_cases hj : j = i
      · subst hj; simp
      · have : (j < i + 1) = (j < i) := by simp; omega
        simp [hj, this]
    have r5 : cI (mapR (tRow l (fun j => if j < i + 1 then usz l w m k high j else msz l w m high j)) l.length) i 3 = usz l w m k high i := by
      rw [(tRow_I (l := l) (fun j => if j < i + 1 then usz l w m k high j else msz l w m high j) hi).2.2.2]; simp
    have hws := wsucc hi (show l.length < 9223372036854775808 by omega)
    cases hcb : cB l i 6
    · have es : wadd .i64 (msz l w m high i) (wmul .i64 (-1) k) = usz l w m k high i := by
        unfold usz; rw [hcb]
        simp only [Bool.false_eq_true, if_false]
        rw [wmul_eq (by omega), wadd_eq (by omega)]; omega
      simp only [STD, i1, idx_nn, and_self, rlen_mapR, law47_sign_eq, r2, hcb, r3, es, rset_tRow _ hi, p_law47_awake, r5, hws, hst, Bool.false_eq_true]
    · have es : wadd .i64 (msz l w m high i) (wmul .i64 1 k) = usz l w m k high i := by
        unfold usz; rw [hcb]
        simp only [if_true]
        rw [wmul_eq (by omega), wadd_eq (by omega)]; omega
      simp only [STD, i1, idx_nn, and_self, rlen_mapR, law47_sign_eq, r2, hcb, r3, es, rset_tRow _ hi, p_law47_awake, r5, hws, hst]
  refine loop_scan (S := law47_GaugeLasts_L26S) (fun i => [.r l, .i by0, .r (desL l w m), .i k, .i 2, .i j5, .i (l.length : Int), .i (i : Int), .i w, .i m, .r tbl, .r (mapR (tRow l (fun j => if j < i then usz l w m k high j else msz l w m high j)) l.length)]) (badAt (usz l w m k high)) _ l.length (by omega) (fun i hi hf => ?_) (fun i r hi hf => ?_) ?_
  · have := badAt_none hf
    rw [step i hi, if_neg (by omega)]
  · rw [step i hi]
    unfold badAt at hf
    split at hf
    · rename_i h0; rw [if_pos h0]; simp at hf; rw [← hf]
    · cases hf
  · rw [law47_GaugeLasts_L26eq]
    simp only [STD, show ¬ ((l.length : Int) < (l.length : Int)) by omega]
theorem lasts_worn (h : desC l w m = 0) (high : Bool) (k : Int) (hk : 0 ≤ k ∧ k ≤ w) (hb : ∀ i, i < l.length → 1 ≤ usz l w m k high i) :
    wornC l (mapR (tRow l (usz l w m k high)) l.length) = 0 ∧ wornL l (mapR (tRow l (usz l w m k high)) l.length) = [] := by
  obtain ⟨hg, hw, hlo⟩ := desC_zero h
  obtain ⟨_, hl, hv⟩ := gchk_zero hg
  have hf : ∀ i, i < l.length → 1 ≤ usz l w m k high i ∧ usz l w m k high i ≤ 300000 := fun i hi => by
    have h1 := hb i hi
    have h2 := msz_bound h high hi
    have h3 := vsz_bound (hv i hi)
    refine ⟨h1, ?_⟩
    unfold usz msz desLo desHi at *
    cases hc : cB l i 6 <;> cases high <;> simp [hc] at h1 h2 ⊢ <;> omega
  obtain ⟨q1, q2⟩ := worn_tRow (usz l w m k high) hg hf
  refine ⟨q1, ?_⟩
  rw [q2]
  refine pick_none fun i hi => ?_
  unfold usz msz desLo desHi
  cases hc : cB l i 6 <;> cases high <;> simp [ilt] <;> omega
/-- the loop over both ends of the limits -/
theorem lasts_outer (h : desC l w m = 0) (by0 : Int) (hby : 0 ≤ by0 ∧ by0 ≤ 65535) :
    ∃ r, (loopT law47_GaugeLasts_L14S [.r l, .i by0, .r (desL l w m), .i 2, .i 0, .i w, .i m, .r [[.b false], [.b true]]]).run = some r ∧ (r = (1, [.b true]) ∨ r = (0, [.r l, .r (desL l w m), .i w, .i m])) := by
  obtain ⟨hg, hw, hlo⟩ := desC_zero h
  obtain ⟨_, hl, hv⟩ := gchk_zero hg
  have ew : wadd .i64 w 1 = w + 1 := wadd_eq (by omega)
  have ec : wconv .i64 by0 = by0 := wconv_eq (by omega)
  have hk : 0 ≤ wrem by0 (w + 1) ∧ wrem by0 (w + 1) ≤ w := by
    have := Int.tmod_nonneg (w + 1) hby.1
    have h2 := Int.tmod_lt_of_pos by0 (show 0 < w + 1 by omega)
    unfold wrem; omega
  generalize hkk : wrem by0 (w + 1) = k at hk
  have hrl : ∀ high, rlen (madeL (desL l w m) high) = rlen l := fun high => by
    rw [made_tRow h high, rlen_mapR]; rfl
  let f : Nat → Option (Nat × List PV) := fun j => scan (badAt (usz l w m k (cB [[U.b false], [U.b true]] (j : Int) 0))) 0 l.length
  have hf1 : ∀ j r, f j = some r → r = (1, [.b true]) := fun j r hr => badAt_scan hr
  have inner := fun high j5 => lasts_inner h high by0 k j5 hk [[.b false], [.b true]]
  have step : ∀ j : Nat, j < 2 → (law47_GaugeLasts_L14S [.r l, .i by0, .r (desL l w m), .i 2, .i (j : Int), .i w, .i m, .r [[.b false], [.b true]]]).run =
      match f j with | none => some (0, [.r l, .i by0, .r (desL l w m), .i 2, .i ((j + 1 : Nat) : Int), .i w, .i m, .r [[.b false], [.b true]]]) | some _ => some (2, [.b true]) := by
    intro j hj
    rw [law47_GaugeLasts_L14eq]
    have i1 : (j : Int) < 2 := by omega
    have i2 : (j : Int) < rlen [[U.b false], [U.b true]] := by show (j : Int) < 2; omega
    have hne : ¬ (w + 1 = 0) := by omega
    have hin := inner (cB [[U.b false], [U.b true]] (j : Int) 0) (j : Int)
    rw [hrl] at hin
    cases hfj : f j with
    | some r =>
      obtain rfl := hf1 j r hfj
      have hfj' : scan (badAt (usz l w m k (cB [[U.b false], [U.b true]] (j : Int) 0))) 0 l.length = some (1, [.b true]) := hfj
      rw [hfj', Option.getD_some] at hin
      simp only [STD, i1, i2, idx_nn, and_self, p_gauge_Made, (madeL_des h true).1, hrl, ew, ec, hkk, hne, hin, jIs_of hin, show ¬ ((1 : Nat) = 0) by decide]
    | none =>
      have hfj' : scan (badAt (usz l w m k (cB [[U.b false], [U.b true]] (j : Int) 0))) 0 l.length = none := hfj
      rw [hfj', Option.getD_none] at hin
      obtain ⟨w1, w2⟩ := lasts_worn h (cB [[U.b false], [U.b true]] (j : Int) 0) k hk fun i hi => badAt_none (scan_none hfj' i (by omega) (by omega))
      simp only [STD, i1, i2, idx_nn, and_self, p_gauge_Made, (madeL_des h true).1, hrl, ew, ec, hkk, hne, hin, jIs_of hin, p_gauge_Worn, w1, w2, wsucc hj (show (2 : Nat) < 9223372036854775808 by omega)]
      simp [rlen]
  have key := loop_scan (S := law47_GaugeLasts_L14S) (fun j => [.r l, .i by0, .r (desL l w m), .i 2, .i (j : Int), .i w, .i m, .r [[.b false], [.b true]]]) f (0, [.r l, .r (desL l w m), .i w, .i m]) 2 (by omega)
    (fun j hj hn => by rw [step j hj, hn]) (fun j r hj hr => by rw [step j hj, hr, hf1 j r hr]) (by
      rw [law47_GaugeLasts_L14eq]; simp only [STD]; simp)
  refine ⟨_, key, ?_⟩
  cases hs : scan f 0 2 with
  | none => right; rfl
  | some r =>
    left
    have : ∀ (k i : Nat) (r : Nat × List PV), scan f i k = some r → r = (1, [.b true]) := by
      intro k
      induction k with
      | zero => intro i r h; cases h
      | succ k ih =>
        intro i r h
        simp only [scan] at h
        cases hfi : f i with
        | some a => rw [hfi] at h; cases h; exact hf1 i _ hfi
        | none => rw [hfi] at h; exact ih _ _ h
    rw [this 2 0 r hs]; rfl
def fsz (l : R) (w m : Int) (i : Nat) : Int := if cB l i 6 = true then desLo l w m i else desLo l w m i - (w + 1)
theorem lasts_last (h : desC l w m = 0) : (loopT law47_GaugeLasts_L40S [.r l, .i (rlen (madeL (desL l w m) false)), .i 0, .i w, .i m, .r (madeL (desL l w m) false)]).run =
    some (0, [.r l, .r (mapR (tRow l (fsz l w m)) l.length)]) := by
  obtain ⟨hg, hw, hlo⟩ := desC_zero h
  obtain ⟨_, hl, hv⟩ := gchk_zero hg
  rw [made_tRow h false, rlen_mapR]
  have e0 : mapR (tRow l (msz l w m false)) l.length = mapR (tRow l (fun j => if j < 0 then fsz l w m j else desLo l w m j)) l.length := mapR_congr fun i _ => by unfold tRow msz; simp
  rw [e0]
  have eN : mapR (tRow l (fsz l w m)) l.length = mapR (tRow l (fun j => if j < l.length then fsz l w m j else desLo l w m j)) l.length := mapR_congr fun i hi => by unfold tRow; simp [hi]
  rw [eN]
  refine loop_count (S := law47_GaugeLasts_L40S) (fun i => [.r l, .i (l.length : Int), .i (i : Int), .i w, .i m, .r (mapR (tRow l (fun j => if j < i then fsz l w m j else desLo l w m j)) l.length)]) (0, _) l.length (by omega) (fun i hi => ?_) ?_
  · rw [law47_GaugeLasts_L40eq]
    obtain ⟨r0, r1, r2, r3⟩ := tRow_I (l := l) (fun j => if j < i then fsz l w m j else desLo l w m j) hi
    simp only [Nat.lt_irrefl, if_false] at r3
    have i1 : (i : Int) < (l.length : Int) := by omega
    have hb := msz_bound h false hi
    have hms : msz l w m false i = desLo l w m i := by unfold msz; simp
    rw [hms] at hb
    have e1 : wadd .i64 w 1 = w + 1 := wadd_eq (by omega)
    have e2 : wsub .i64 (desLo l w m i) (w + 1) = desLo l w m i - (w + 1) := wsub_eq (by omega)
    have hws := wsucc hi (show l.length < 9223372036854775808 by omega)
    cases hcb : cB l i 6
    · have hst : mapR (tRow l (fun j => if j = i then desLo l w m i - (w + 1) else if j < i then fsz l w m j else desLo l w m j)) l.length = mapR (tRow l (fun j => if j < i + 1 then fsz l w m j else desLo l w m j)) l.length := mapR_congr fun j _ => by
        unfold tRow
        by_cases hj : j = i
        · subst hj; simp [fsz, hcb]
        · have : (j < i + 1) = (j < i) := by simp; omega
          simp [hj, this]
      simp only [STD, i1, idx_nn, and_self, rlen_mapR, r2, hcb, r3, e1, e2, rset_tRow _ hi, hst, hws, Bool.false_eq_true]
    · have hst : mapR (tRow l (fun j => if j < i then fsz l w m j else desLo l w m j)) l.length = mapR (tRow l (fun j => if j < i + 1 then fsz l w m j else desLo l w m j)) l.length := mapR_congr fun j _ => by
        unfold tRow
        by_cases hj : j = i
        · subst hj; simp [fsz, hcb]
        · have : (j < i + 1) = (j < i) := by simp; omega
          simp [this]
      simp only [STD, i1, idx_nn, and_self, rlen_mapR, r2, hcb, hws, ← hst]
  · rw [law47_GaugeLasts_L40eq]
    simp only [STD, show ¬ ((l.length : Int) < (l.length : Int)) by omega]
/-- is some tool's size less than 1? -/
theorem lasts_small (q : R) (hq : q.length ≤ 16) : ∃ b, (slices_ContainsFunc_gauge_Tool_gauge_Tool_T [.r q]).run = some (0, [.b b]) ∧ (b = false → ∀ i, i < q.length → 1 ≤ cI q i 3) := by
  rw [slices_ContainsFunc_gauge_Tool_gauge_Tool_eq, slices_IndexFunc_gauge_Tool_gauge_Tool_eq]
  have key := loop_scan (S := slices_IndexFunc_gauge_Tool_gauge_Tool_L3S) (fun i => [.r q, .i (rlen q), .i (i : Int)]) (fun i => if cI q i 3 < 1 then some (1, [PV.i (i : Int)]) else none) (0, []) q.length (by omega) (fun i hi hf => by
    rw [slices_IndexFunc_gauge_Tool_gauge_Tool_L3eq]
    have hn : ¬ cI q i 3 < 1 := by
      intro hc; simp only [hc, if_true] at hf; cases hf
    simp only [STD, idx_lt hi, idx_nn, and_self, law47_GaugeLasts_1_eq, hn, wsucc hi (show q.length < 9223372036854775808 by omega)]) (fun i r hi hf => by
    rw [slices_IndexFunc_gauge_Tool_gauge_Tool_L3eq]
    by_cases hc : cI q i 3 < 1
    · simp only [hc, if_true, Option.some.injEq] at hf
      subst hf
      simp only [STD, idx_lt hi, idx_nn, and_self, law47_GaugeLasts_1_eq, hc]
    · simp only [hc, if_false] at hf; cases hf) (by
    rw [slices_IndexFunc_gauge_Tool_gauge_Tool_L3eq]; simp only [STD, idx_end])
  have key' : (loopT slices_IndexFunc_gauge_Tool_gauge_Tool_L3S [.r q, .i (rlen q), .i 0]).run = _ := key
  cases hs : scan (fun i : Nat => if cI q i 3 < 1 then some (1, [PV.i (i : Int)]) else none) 0 q.length with
  | none =>
    rw [hs, Option.getD_none] at key'
    refine ⟨false, by simp only [STD, key', jIs_of key']; simp [ile], fun _ i hi => ?_⟩
    have := scan_none hs i (by omega) (by omega)
    by_cases hc : cI q i 3 < 1
    · simp [hc] at this
    · omega
  | some r =>
    rw [hs, Option.getD_some] at key'
    obtain ⟨j, ps⟩ := r
    have hr : ∀ (k i : Nat) (r : Nat × List PV), scan (fun i : Nat => if cI q i 3 < 1 then some (1, [PV.i (i : Int)]) else none) i k = some r → ∃ t : Nat, r = (1, [.i (t : Int)]) := by
      intro k
      induction k with
      | zero => intro i r h; cases h
      | succ k ih =>
        intro i r h
        simp only [scan] at h
        by_cases hc : cI q i 3 < 1
        · simp only [hc, if_true] at h; cases h; exact ⟨i, rfl⟩
        · simp only [hc, if_false] at h; exact ih _ _ h
    obtain ⟨t, ht⟩ := hr _ _ _ hs
    cases ht
    refine ⟨true, by simp only [STD, key', jIs_of key', show ¬ ((1 : Nat) = 0) by decide]; simp [ile], fun hb => by cases hb⟩
theorem lasts_pins (q : R) (hq : q.length ≤ 16) : (law47_pins_T [.r q]).run = some (0, [.i (rlen (pick (fun i => !cB q i 2) q.length))]) := by
  rw [law47_pins_eq]
  have k : (loopT law47_pins_L4S [.i 0, .r q, .i (rlen q), .i 0]).run = some (0, [.i (rlen (pick (fun i => !cB q i 2) q.length))]) := by
    refine loop_count (S := law47_pins_L4S) (fun i => [.i (rlen (pick (fun i => !cB q i 2) i)), .r q, .i (rlen q), .i (i : Int)]) (0, _) q.length (by omega) (fun i hi => ?_) ?_
    · rw [law47_pins_L4eq, pick_count]
      have hp := pick_len (fun i => !cB q i 2) i
      have e1 : wadd .i64 (rlen (pick (fun i => !cB q i 2) i)) 1 = rlen (pick (fun i => !cB q i 2) i) + 1 := wadd_eq (by unfold rlen; omega)
      simp only [STD, idx_lt hi, idx_nn, and_self, wsucc hi (show q.length < 9223372036854775808 by omega), e1]
      cases cB q i 2 <;> simp
    · rw [law47_pins_L4eq]; simp only [STD, idx_end]
  simp only [STD, k]
theorem lasts_holes (p : Nat → Bool) (n : Nat) (q : R) (hn : n ≤ 16) (hq : q.length = n) (hp : ∀ i, i < n → p i = true → cB q i 2 = false) : (slices_ContainsFunc_int_int_T [.r (pick p n), .r q]).run = some (0, [.b false, .r q]) := by
  rw [slices_ContainsFunc_int_int_eq, slices_IndexFunc_int_int_eq]
  have hl := pick_len p n
  have k : (loopT slices_IndexFunc_int_int_L3S [.r (pick p n), .i (rlen (pick p n)), .i 0, .r q]).run = some (0, [.r q]) := by
    refine loop_count (S := slices_IndexFunc_int_int_L3S) (fun i => [.r (pick p n), .i (rlen (pick p n)), .i (i : Int), .r q]) (0, _) (pick p n).length (by omega) (fun j hj => ?_) ?_
    · obtain ⟨i, hi, h1, h2⟩ := pick_get p n j hj
      have h3 := hp i hi h1
      rw [slices_IndexFunc_int_int_L3eq]
      have i2 : (i : Int) < rlen q := by unfold rlen; omega
      simp only [STD, idx_lt hj, idx_nn, and_self, law47_GaugeLasts_2_eq, h2, i2, h3, Bool.false_eq_true, wsucc hj (show (pick p n).length < 9223372036854775808 by omega)]
    · rw [slices_IndexFunc_int_int_L3eq]; simp only [STD, idx_end]
  simp only [STD, k, jIs_of k]; simp [ile]
end
theorem plainGaugeLasts (x0 : R) (x1 : Int) (x2 : Int) (x3 : Int) (lex0 : UFit (.sl [(.int .i64), (.int .i64), (.int .i64), (.int .i64), (.int .i64), (.int .i64), .bool]) (.l x0)) (lox1 : IntKind.min .i64 ≤ x1) (hix1 : x1 ≤ IntKind.max .i64) (lox2 : IntKind.min .i64 ≤ x2) (hix2 : x2 ≤ IntKind.max .i64) (lox3 : IntKind.min .u16 ≤ x3) (hix3 : x3 ≤ IntKind.max .u16) : (law47_GaugeLasts_T [.r x0, .i x1, .i x2, .i x3]).run = some (0, [.b true]) := by
  rw [law47_GaugeLasts_eq]
  by_cases h1 : rlen x0 ≤ 32
  · by_cases hd : desC x0 x1 x2 = 0
    · obtain ⟨hg, hw, hlo⟩ := desC_zero hd
      obtain ⟨hp, hl, hv⟩ := gchk_zero hg
      obtain ⟨s1, s2⟩ := des_safe hd
      have hne : ¬ rlen x0 = 0 := by unfold rlen; omega
      have hrl : rlen (desL x0 x1 x2) = rlen x0 := by unfold desL; rw [if_pos hd, rlen_mapR]; rfl
      have ew : wadd .i64 x1 x2 = x1 + x2 := wadd_eq (by omega)
      obtain ⟨r, o1, o2⟩ := lasts_outer hd x3 ⟨lox3, hix3⟩
      have o1' : (loopT law47_GaugeLasts_L14S [.r x0, .i x3, .r (desL x0 x1 x2), .i (rlen [[U.b false], [U.b true]]), .i 0, .i x1, .i x2, .r [[.b false], [.b true]]]).run = some r := o1
      rcases o2 with rfl | rfl
      · simp only [STD, law47_few_eq, h1, p_gauge_Design, hd, p_gauge_Loss, s1, s2, p_gauge_Safe, hne, hrl, ew, o1', jIs_of o1', show ¬ ((1 : Nat) = 0) by decide]
      · have k := lasts_last hd
        obtain ⟨b, c1, c2⟩ := lasts_small (mapR (tRow x0 (fsz x0 x1 x2)) x0.length) (by rw [mapR_len]; exact hl)
        cases b with
        | true =>
          simp only [STD, law47_few_eq, h1, p_gauge_Design, hd, p_gauge_Loss, s1, s2, p_gauge_Safe, hne, hrl, ew, o1', jIs_of o1', p_gauge_Made, k, p_gauge_Worn, c1]
        | false =>
          have hb : ∀ i, i < x0.length → 1 ≤ fsz x0 x1 x2 i ∧ fsz x0 x1 x2 i ≤ 300000 := fun i hi => by
            have q1 := c2 rfl i (by rw [mapR_len]; exact hi)
            rw [(tRow_I (l := x0) (fsz x0 x1 x2) hi).2.2.2] at q1
            have q2 := msz_bound hd false hi
            refine ⟨q1, ?_⟩
            have hms : msz x0 x1 x2 false i = desLo x0 x1 x2 i := by unfold msz; simp
            rw [hms] at q2
            unfold fsz; split <;> omega
          obtain ⟨w1, w2⟩ := worn_tRow (fsz x0 x1 x2) hg hb
          have hpk : pick (fun i => if cB x0 i 6 = true then ilt (vsz x0 i) (fsz x0 x1 x2 i) else ilt (fsz x0 x1 x2 i) (vsz x0 i)) x0.length = pick (fun i => !cB x0 i 6) x0.length := pick_congr fun i hi => by
            unfold fsz desLo
            cases cB x0 i 6 <;> simp [ilt] <;> omega
          rw [hpk] at w2
          have hh := lasts_holes (fun i => !cB x0 i 6) x0.length (mapR (tRow x0 (fsz x0 x1 x2)) x0.length) hl (mapR_len _ _) fun i hi hpi => by
            rw [(tRow_I (l := x0) (fsz x0 x1 x2) hi).2.2.1]; simpa using hpi
          have hpn := lasts_pins (mapR (tRow x0 (fsz x0 x1 x2)) x0.length) (by rw [mapR_len]; exact hl)
          rw [mapR_len, pick_congr (q := fun i => !cB x0 i 6) fun i hi => by rw [(tRow_I (l := x0) (fsz x0 x1 x2) hi).2.2.1]] at hpn
          simp only [STD, law47_few_eq, h1, p_gauge_Design, hd, p_gauge_Loss, s1, s2, p_gauge_Safe, hne, hrl, ew, o1', jIs_of o1', p_gauge_Made, k, p_gauge_Worn, c1, w1, w2, hh, hpn, p_law47_awake, Bool.false_eq_true]
    · have he : desL x0 x1 x2 = [] := by unfold desL; rw [if_neg hd]
      simp only [STD, law47_few_eq, h1, p_gauge_Design, hd, he, p_law47_awake]; simp [rlen]
  · simp only [STD, law47_few_eq, h1, p_law47_awake]
end Go.Eng
