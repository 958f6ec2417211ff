import Derived.Test.YtcdlfamincogdaaDoorPGauge3
namespace Go.Eng
/-! ### Worn -/
def wornE (l x : R) (i : Nat) : Int := if ¬ (1 ≤ cI x i 3 ∧ cI x i 3 ≤ 300000) then 2 else if sameAt l x i then 0 else 16
def wornB (l x : R) (i : Nat) : Bool := if cB x i 2 = true then ilt (vsz l i) (cI x i 3) else ilt (cI x i 3) (vsz l i)
def wornC (l x : R) : Int := if gchk l ≠ 0 then gchk l else if rlen x ≠ rlen l then 8 else firstE (wornE l x) x.length
def wornL (l x : R) : R := if wornC l x = 0 then pick (wornB l x) x.length else []
theorem wornE_zero {l x : R} {i : Nat} (h : wornE l x i = 0) : (1 ≤ cI x i 3 ∧ cI x i 3 ≤ 300000) ∧ sameAt l x i := by
  unfold wornE at h
  split at h
  · omega
  · rename_i h1
    split at h
    · exact ⟨by omega, by assumption⟩
    · omega
theorem p_gauge_Worn_1 (l x s : R) (i : Nat) (hi : i < l.length) (hs : i < s.length) (he : cI s i 0 = vsz l i) :
    (gauge_Worn_1_T [.i (i : Int), .i (cI x i 0), .i (cI x i 1), .b (cB x i 2), .i (cI x i 3), .r l, .r s]).run =
      some (0, [.b (if wornE l x i = 0 then wornB l x i else false), .i (wornE l x i), .r l, .r s]) := by
  rw [gauge_Worn_1_eq]
  simp only [STD, p_gauge_ranged, idx_lt hi, idx_lt hs, idx_nn, and_self, and_true]
  by_cases hl : 1 ≤ cI x i 3 ∧ cI x i 3 ≤ 300000
  · by_cases h1 : cI x i 0 = cI l i 0 ∧ cI x i 1 = cI l i 1
    · by_cases h2 : cB x i 2 = cB l i 6
      · have h0 : wornE l x i = 0 := by unfold wornE sameAt; simp [hl, h1, h2]
        unfold wornB
        rw [← he]
        simp only [hl, h0, h1, h2, STD, and_self]
        cases cB l i 6 <;> simp
      · have h0 : wornE l x i = 16 := by unfold wornE sameAt; simp [hl, h1, h2]
        simp [hl, h1, h2, h0]
    · have h0 : wornE l x i = 16 := by unfold wornE sameAt; simp only [hl, h1]; simp
      simp [hl, h1, h0]
  · have h0 : wornE l x i = 2 := by unfold wornE; rw [if_pos hl]
    simp only [hl, h0, STD]; simp
def boolRow (p : Nat → Bool) (i : Nat) : List U := [.b (p i)]
theorem p_gauge_Worn (l x : R) : (gauge_Worn_T [.r l, .r x]).run = some (0, [.r (wornL l x), .i (wornC l x)]) := by
  rw [gauge_Worn_eq]
  unfold wornL wornC
  by_cases h0 : gchk l = 0
  · obtain ⟨hp, hl, hv⟩ := gchk_zero h0
    by_cases hg : rlen x = rlen l
    · have hgl : x.length = l.length := by unfold rlen at hg; omega
      generalize hs : mapR (fun i => [.i (vsz l i)]) l.length = s
      have hsl : s.length = l.length := by rw [← hs, mapR_len]
      have hsi : ∀ i, i < l.length → cI s i 0 = vsz l i := fun i hi => by rw [← hs, cI_mapR _ hi]; rfl
      have k := loop_err (S := gauge_mapped_gauge_Tool_bool_L4S) (fun i => [.r x, .i (rlen x), .i (i : Int), .r l, .r s, .r (mapR (boolRow (wornB l x)) i)]) (wornE l x) [.r l, .r s] [.r l, .r s, .r (mapR (boolRow (wornB l x)) x.length)] x.length (by omega) (fun i hi => by
        have hil : i < l.length := by omega
        rw [gauge_mapped_gauge_Tool_bool_L4eq]
        simp only [STD, idx_lt hi, idx_nn, and_self, p_gauge_Worn_1 l x s i hil (by omega) (hsi i hil)]
        by_cases he : wornE l x i = 0
        · simp only [he, STD, wsucc hi (show x.length < 9223372036854775808 by omega)]
          rw [if_pos (mapR_room hi (by omega) _), ← mapR_succ]; rfl
        · simp [he, STD]) (by
        rw [gauge_mapped_gauge_Tool_bool_L4eq]
        simp only [STD, idx_end])
      by_cases hf : firstE (wornE l x) x.length = 0
      · rw [if_pos hf] at k
        have k' : (loopT gauge_mapped_gauge_Tool_bool_L4S [.r x, .i (rlen x), .i 0, .r l, .r s, .r []]).run = _ := k
        generalize hm : mapR (boolRow (wornB l x)) x.length = m at k'
        have hml : m.length = x.length := by rw [← hm, mapR_len]
        have hmi : ∀ i, i < x.length → cB m i 0 = wornB l x i := fun i hi => by rw [← hm, cB_mapR _ hi]; rfl
        have e : (gauge_mapped_gauge_Tool_bool_T [.r x, .r l, .r s]).run = some (0, [.r m, .i 0, .r l, .r s]) := by
          rw [gauge_mapped_gauge_Tool_bool_eq]; simp only [STD, k', jIs_of k']
        have q : (loopT gauge_Worn_L15S [.r m, .i (rlen m), .i 0, .r []]).run = some (0, [.r (pick (wornB l x) x.length)]) := by
          refine loop_count (S := gauge_Worn_L15S) (fun i => [.r m, .i (rlen m), .i (i : Int), .r (pick (wornB l x) i)]) (0, _) x.length (by omega) (fun i hi => ?_) ?_
          · rw [gauge_Worn_L15eq]
            simp only [STD, idx_lt (show i < m.length by omega), idx_nn, and_self, hmi i hi, wsucc hi (show x.length < 9223372036854775808 by omega), pick_room hi (show x.length ≤ 34359738368 by omega), pick]
            cases wornB l x i <;> simp
          · rw [gauge_Worn_L15eq, ← hml]; simp only [STD, idx_end]
        simp only [STD, p_gauge_virtual, h0, hg, hs, e, q, hf]
      · rw [if_neg hf] at k
        have k' : (loopT gauge_mapped_gauge_Tool_bool_L4S [.r x, .i (rlen x), .i 0, .r l, .r s, .r []]).run = _ := k
        have e : (gauge_mapped_gauge_Tool_bool_T [.r x, .r l, .r s]).run = some (0, [.r [], .i (firstE (wornE l x) x.length), .r l, .r s]) := by
          rw [gauge_mapped_gauge_Tool_bool_eq]; simp only [STD, k', jIs_of k', show ¬ ((1 : Nat) = 0) by decide]
        simp only [STD, p_gauge_virtual, h0, hg, hs, e, hf]
    · simp [STD, p_gauge_virtual, h0, hg]
  · simp [STD, p_gauge_virtual, h0]
theorem p_ref47_Worn (l x : R) : (ref47_Worn_T [.r l, .r x]).run = some (0, [.r (wornL l x), .i (wornC l x)]) := by
  rw [ref47_Worn_eq]
  unfold wornL wornC
  by_cases h0 : gchk l = 0
  · obtain ⟨hp, hl, hv⟩ := gchk_zero h0
    by_cases hg : rlen x = rlen l
    · have hgl : x.length = l.length := by unfold rlen at hg; omega
      have k := loop_err (S := ref47_Worn_L11S) (fun i => [.r l, .r x, .i (i : Int), .r (pick (wornB l x) i)]) (wornE l x) [] [.r (pick (wornB l x) x.length)] x.length (by omega) (fun i hi => by
        have hil : i < l.length := by omega
        rw [ref47_Worn_L11eq]
        have hb1 := p_ref47_Beyond (cI l i 0) (cI l i 1) (cI l i 2) (cI l i 3) (cI l i 4) (cI l i 5) (cB l i 6) (cI x i 3) (hv i hil)
        have hvs : vS (cI l i 2) (cI l i 3) (cI l i 4) (cB l i 6) = vsz l i := rfl
        rw [hvs] at hb1
        simp only [STD, idx_lt hi, idx_lt hil, idx_nn, p_ref47_size, hb1, and_self, and_true, wsucc hi (show x.length < 9223372036854775808 by omega), pick_room hi (show x.length ≤ 34359738368 by omega)]
        by_cases hlm : 1 ≤ cI x i 3 ∧ cI x i 3 ≤ 300000
        · by_cases h1 : cI x i 0 = cI l i 0 ∧ cI x i 1 = cI l i 1
          · by_cases h2 : cB x i 2 = cB l i 6
            · have he : wornE l x i = 0 := by unfold wornE sameAt; simp [hlm, h1, h2]
              have hw : wornB l x i = (if cB l i 6 = true then ilt (vsz l i) (cI x i 3) else ilt (cI x i 3) (vsz l i)) := by unfold wornB; rw [h2]
              simp only [hlm, h1, h2, he, STD, and_self, ← hw, pick]
              cases wornB l x i <;> simp
            · have he : wornE l x i = 16 := by unfold wornE sameAt; simp [hlm, h1, h2]
              simp [hlm, h1, h2, he]
          · have he : wornE l x i = 16 := by unfold wornE sameAt; simp only [hlm, h1]; simp
            simp [hlm, h1, he]
        · have he : wornE l x i = 2 := by unfold wornE; rw [if_pos hlm]
          simp only [hlm, he, STD]; simp) (by
        rw [ref47_Worn_L11eq]
        simp only [STD, idx_end])
      by_cases hf : firstE (wornE l x) x.length = 0
      · rw [if_pos hf] at k
        have k' : (loopT ref47_Worn_L11S [.r l, .r x, .i 0, .r []]).run = _ := k
        simp only [STD, p_ref47_Check, h0, hg, k', jIs_of k', hf]
      · rw [if_neg hf] at k
        have k' : (loopT ref47_Worn_L11S [.r l, .r x, .i 0, .r []]).run = _ := k
        simp only [STD, p_ref47_Check, h0, hg, k', jIs_of k', hf, show ¬ ((1 : Nat) = 0) by decide]
    · simp [STD, p_ref47_Check, h0, hg]
  · simp [STD, p_ref47_Check, h0]
theorem wornE_to (l x : R) {i : Nat} (h : i < x.length) : wornE l (mapR (toRow x) x.length) i = wornE l x i := by
  obtain ⟨h0, h1, h2, h3⟩ := toRow_I x h
  have hs : sameAt l (mapR (toRow x) x.length) i = sameAt l x i := by unfold sameAt; rw [h0, h1, h2]
  unfold wornE; simp only [hs, h3]
theorem wornB_to (l x : R) {i : Nat} (h : i < x.length) : wornB l (mapR (toRow x) x.length) i = wornB l x i := by
  obtain ⟨h0, h1, h2, h3⟩ := toRow_I x h
  unfold wornB; rw [h2, h3]
theorem wornC_to (l x : R) : wornC l (mapR (toRow x) x.length) = wornC l x := by
  unfold wornC
  rw [mapR_len, rlen_mapR, firstE_congr fun i hi => wornE_to l x hi]; rfl
theorem wornL_to (l x : R) : wornL l (mapR (toRow x) x.length) = wornL l x := by
  unfold wornL
  rw [wornC_to, mapR_len, pick_congr fun i hi => wornB_to l x hi]
theorem wornL_len (l x : R) : (wornL l x).length ≤ x.length := by
  unfold wornL; split
  · exact pick_len _ _
  · simp
theorem plainGaugeWears (x0 : R) (x1 : R) (lex0 : UFit (.sl [(.int .i64), (.int .i64), (.int .i64), (.int .i64), (.int .i64), (.int .i64), .bool]) (.l x0)) (lex1 : UFit (.sl [(.int .i64), (.int .i64), .bool, (.int .i64)]) (.l x1)) : (law47_GaugeWears_T [.r x0, .r x1]).run = some (0, [.b true]) := by
  rw [law47_GaugeWears_eq]
  simp only [STD, law47_few_eq, p_law47_awake]
  by_cases h1 : rlen x0 ≤ 32
  · by_cases h2 : 40 < rlen x1
    · simp only [h1, h2, STD]
    · have hl : x1.length ≤ 40 := by unfold rlen at h2; omega
      have hw := wornL_len x0 x1
      simp only [h1, h2, STD, p_gauge_Worn, p_law47_tools x1 hl, p_ref47_Worn, wornC_to, wornL_to, p_slices_Equal_refl (wornL x0 x1) (by omega)]
  · simp only [h1, STD]
/-! ### Design -/
def desLo (l : R) (w m : Int) (i : Nat) : Int := if cB l i 6 = true then vsz l i - w - m else vsz l i + w
def desHi (l : R) (w m : Int) (i : Nat) : Int := if cB l i 6 = true then vsz l i - w else vsz l i + w + m
def desE (l : R) (w m : Int) (i : Nat) : Int := if desLo l w m i < 1 then 14 else 0
def desRow (l : R) (w m : Int) (i : Nat) : List U := [.i (cI l i 0), .i (cI l i 1), .b (cB l i 6), .i (desLo l w m i), .i (desHi l w m i)]
def desC (l : R) (w m : Int) : Int := if gchk l ≠ 0 then gchk l else if w < 0 ∨ 100000 < w ∨ m < 0 ∨ 100000 < m then 2 else firstE (desE l w m) l.length
def desL (l : R) (w m : Int) : R := if desC l w m = 0 then mapR (desRow l w m) l.length else []
theorem desC_zero {l : R} {w m : Int} (h : desC l w m = 0) : gchk l = 0 ∧ (0 ≤ w ∧ w ≤ 100000 ∧ 0 ≤ m ∧ m ≤ 100000) ∧ ∀ i, i < l.length → 1 ≤ desLo l w m i := by
  unfold desC at h
  split at h
  · rename_i h1; exact absurd h h1
  · split at h
    · omega
    · refine ⟨by omega, by omega, fun i hi => ?_⟩
      have := firstE_zero h i hi
      unfold desE at this
      split at this <;> omega
theorem p_gauge_Design_1 (l s : R) (w m : Int) (i : Nat) (hi : i < s.length) (he : cI s i 0 = vsz l i) (hb : 1 ≤ vsz l i ∧ vsz l i ≤ 200000) (hw : 0 ≤ w ∧ w ≤ 100000 ∧ 0 ≤ m ∧ m ≤ 100000) :
    (gauge_Design_1_T [.i (i : Int), .i (cI l i 0), .i (cI l i 1), .i (cI l i 2), .i (cI l i 3), .i (cI l i 4), .i (cI l i 5), .b (cB l i 6), .r s, .i w, .i m]).run =
      some (0, if desE l w m i = 0 then [.i (cI l i 0), .i (cI l i 1), .b (cB l i 6), .i (desLo l w m i), .i (desHi l w m i), .i 0, .r s, .i w, .i m] else [.i 0, .i 0, .b false, .i 0, .i 0, .i (desE l w m i), .r s, .i w, .i m]) := by
  rw [gauge_Design_1_eq]
  have e1 : wsub .i64 (vsz l i) w = vsz l i - w := wsub_eq (by omega)
  have e2 : wsub .i64 (vsz l i - w) m = vsz l i - w - m := wsub_eq (by omega)
  have e3 : wadd .i64 (vsz l i) w = vsz l i + w := wadd_eq (by omega)
  have e4 : wadd .i64 (vsz l i + w) m = vsz l i + w + m := wadd_eq (by omega)
  simp only [STD, idx_lt hi, idx_nn, and_self, he, e1, e2, e3, e4]
  unfold desE desLo desHi
  cases cB l i 6 <;> simp <;> split <;> simp_all
theorem p_gauge_Design (l : R) (w m : Int) : (gauge_Design_T [.r l, .i w, .i m]).run = some (0, [.r (desL l w m), .i (desC l w m)]) := by
  rw [gauge_Design_eq]
  unfold desL desC
  by_cases h0 : gchk l = 0
  · obtain ⟨hp, hl, hv⟩ := gchk_zero h0
    generalize hs : mapR (fun i => [.i (vsz l i)]) l.length = s
    have hsl : s.length = l.length := by rw [← hs, mapR_len]
    have hsi : ∀ i, i < l.length → cI s i 0 = vsz l i := fun i hi => by rw [← hs, cI_mapR _ hi]; rfl
    have k0 := loop_err (S := gauge_Design_L7S) (fun i => [.r l, .i w, .i m, .i (i : Int), .i w, .i m, .r s]) (fun i => if isel [w, m] i < 0 then 2 else if 100000 < isel [w, m] i then 2 else 0) [] [.r l, .i w, .i m, .r s] 2 (by omega) (fun i hi => by
      rw [gauge_Design_L7eq]
      have : (i : Int) < 2 := by omega
      simp only [STD, this, idx_nn, and_self, wsucc hi (by omega)]
      split
      · simp
      · split <;> simp) (by
      rw [gauge_Design_L7eq]
      simp only [STD]; simp)
    have hf2 : firstE (fun i : Nat => if isel [w, m] i < 0 then (2 : Int) else if 100000 < isel [w, m] i then 2 else 0) 2 = if w < 0 ∨ 100000 < w ∨ m < 0 ∨ 100000 < m then 2 else 0 := by
      have a0 : isel [w, m] ((0 : Nat) : Int) = w := rfl
      have a1 : isel [w, m] ((1 : Nat) : Int) = m := rfl
      unfold firstE
      simp only [scan, errAt, a0, a1]
      by_cases b1 : w < 0
      · simp [b1]
      · by_cases b2 : 100000 < w
        · simp [b1, b2]
        · by_cases b3 : m < 0
          · simp [b1, b2, b3]
          · by_cases b4 : 100000 < m <;> simp [b1, b2, b3, b4]
    rw [hf2] at k0
    by_cases hw : w < 0 ∨ 100000 < w ∨ m < 0 ∨ 100000 < m
    · rw [if_pos hw] at k0
      have k0' : (loopT gauge_Design_L7S [.r l, .i w, .i m, .i 0, .i w, .i m, .r s]).run = some (1, [.i 2]) := by simpa using k0
      simp only [STD, p_gauge_virtual, h0, hs, k0', jIs_of k0', hw, show ¬ ((1 : Nat) = 0) by decide]; simp
    · rw [if_neg hw] at k0
      have k0' : (loopT gauge_Design_L7S [.r l, .i w, .i m, .i 0, .i w, .i m, .r s]).run = some (0, [.r l, .i w, .i m, .r s]) := by simpa using k0
      have k := loop_err (S := gauge_mapped_api_Target_gauge_Element_L4S) (fun i => [.r l, .i (rlen l), .i (i : Int), .r s, .i w, .i m, .r (mapR (desRow l w m) i)]) (desE l w m) [.r s, .i w, .i m] [.r s, .i w, .i m, .r (mapR (desRow l w m) l.length)] l.length (by omega) (fun i hi => by
        rw [gauge_mapped_api_Target_gauge_Element_L4eq]
        simp only [STD, idx_lt hi, idx_nn, and_self, p_gauge_Design_1 l s w m i (by omega) (hsi i hi) (vsz_bound (hv i hi)) (by omega)]
        by_cases he : desE l w m i = 0
        · simp only [he, STD, wsucc hi (show l.length < 9223372036854775808 by omega)]
          rw [if_pos (mapR_room hi (by omega) _), ← mapR_succ]; rfl
        · simp [he, STD]) (by
        rw [gauge_mapped_api_Target_gauge_Element_L4eq]
        simp only [STD, idx_end])
      by_cases hf : firstE (desE l w m) l.length = 0
      · rw [if_pos hf] at k
        have k' : (loopT gauge_mapped_api_Target_gauge_Element_L4S [.r l, .i (rlen l), .i 0, .r s, .i w, .i m, .r []]).run = _ := k
        have e : (gauge_mapped_api_Target_gauge_Element_T [.r l, .r s, .i w, .i m]).run = some (0, [.r (mapR (desRow l w m) l.length), .i 0, .r s, .i w, .i m]) := by
          rw [gauge_mapped_api_Target_gauge_Element_eq]; simp only [STD, k', jIs_of k']
        simp only [STD, p_gauge_virtual, h0, hs, k0', jIs_of k0', hw, e, hf]
      · rw [if_neg hf] at k
        have k' : (loopT gauge_mapped_api_Target_gauge_Element_L4S [.r l, .i (rlen l), .i 0, .r s, .i w, .i m, .r []]).run = _ := k
        have e : (gauge_mapped_api_Target_gauge_Element_T [.r l, .r s, .i w, .i m]).run = some (0, [.r [], .i (firstE (desE l w m) l.length), .r s, .i w, .i m]) := by
          rw [gauge_mapped_api_Target_gauge_Element_eq]; simp only [STD, k', jIs_of k', show ¬ ((1 : Nat) = 0) by decide]
        simp only [STD, p_gauge_virtual, h0, hs, k0', jIs_of k0', hw, e, hf]
  · simp [STD, p_gauge_virtual, h0]
theorem p_ref47_Design (l : R) (w m : Int) : (ref47_Design_T [.r l, .i w, .i m]).run = some (0, [.r (desL l w m), .i (desC l w m)]) := by
  rw [ref47_Design_eq]
  unfold desL desC
  by_cases h0 : gchk l = 0
  · obtain ⟨hp, hl, hv⟩ := gchk_zero h0
    by_cases hw : w < 0 ∨ 100000 < w ∨ m < 0 ∨ 100000 < m
    · simp only [STD, p_ref47_Check, h0, hw]
      by_cases b1 : w < 0
      · simp [b1]
      · by_cases b2 : 100000 < w
        · simp [b1, b2]
        · by_cases b3 : m < 0
          · simp [b1, b2, b3]
          · have b4 : 100000 < m := by omega
            simp [b1, b2, b3, b4]
    · have k1 : (loopT ref47_Design_L11S [.r l, .i 0, .i w, .i m, .r []]).run = some (0, [.r (mapR (desRow l w m) l.length)]) := by
        refine loop_count (S := ref47_Design_L11S) (fun i => [.r l, .i (i : Int), .i w, .i m, .r (mapR (desRow l w m) i)]) (0, _) l.length (by omega) (fun i hi => ?_) ?_
        · have hb := vsz_bound (hv i hi)
          have hg1 := p_ref44_Gauge1 (cI l i 0) (cI l i 1) (cI l i 2) (cI l i 3) (cI l i 4) (cI l i 5) (cB l i 6) (hv i hi)
          have hvs : vS (cI l i 2) (cI l i 3) (cI l i 4) (cB l i 6) = vsz l i := rfl
          rw [hvs] at hg1
          have e1 : wsub .i64 (vsz l i) w = vsz l i - w := wsub_eq (by omega)
          have e2 : wsub .i64 (vsz l i - w) m = vsz l i - w - m := wsub_eq (by omega)
          have e3 : wadd .i64 (vsz l i) w = vsz l i + w := wadd_eq (by omega)
          have e4 : wadd .i64 (vsz l i + w) m = vsz l i + w + m := wadd_eq (by omega)
          rw [ref47_Design_L11eq, ref47_Ideal_eq, ← mapR_succ]
          simp only [STD, idx_lt hi, idx_nn, and_self, hg1, e1, e2, e3, e4, wsucc hi (show l.length < 9223372036854775808 by omega)]
          unfold desRow desLo desHi
          have hr := fun a => mapR_room (g := desRow l w m) hi (show l.length ≤ 34359738368 by omega) a
          unfold desRow desLo desHi at hr
          cases hc : cB l i 6 <;> simp only [STD, Bool.false_eq_true, hr]
        · rw [ref47_Design_L11eq]; simp only [STD, idx_end]
      generalize hm : mapR (desRow l w m) l.length = q at k1
      have hml : q.length = l.length := by rw [← hm, mapR_len]
      have hmi : ∀ i, i < l.length → cI q i 3 = desLo l w m i := fun i hi => by rw [← hm, cI_mapR _ hi]; rfl
      have k := loop_err (S := ref47_Design_L17S) (fun i => [.i (i : Int), .r q]) (desE l w m) [] [.r q] l.length (by omega) (fun i hi => by
        rw [ref47_Design_L17eq]
        simp only [STD, idx_lt (show i < q.length by omega), idx_nn, and_self, hmi i hi, wsucc hi (show l.length < 9223372036854775808 by omega)]
        unfold desE
        split <;> simp) (by
        rw [ref47_Design_L17eq, ← hml]
        simp only [STD, idx_end])
      have n1 : ¬ w < 0 := by omega
      have n2 : ¬ 100000 < w := by omega
      have n3 : ¬ m < 0 := by omega
      have n4 : ¬ 100000 < m := by omega
      by_cases hf : firstE (desE l w m) l.length = 0
      · rw [if_pos hf] at k
        have k' : (loopT ref47_Design_L17S [.i 0, .r q]).run = _ := k
        simp only [STD, p_ref47_Check, h0, k1, k', jIs_of k', hf, n1, n2, n3, n4, or_self, hm]
      · rw [if_neg hf] at k
        have k' : (loopT ref47_Design_L17S [.i 0, .r q]).run = _ := k
        simp only [STD, p_ref47_Check, h0, k1, k', jIs_of k', hf, n1, n2, n3, n4, or_self, show ¬ ((1 : Nat) = 0) by decide]
  · simp [STD, p_ref47_Check, h0]
theorem desL_len (l : R) (w m : Int) : (desL l w m).length ≤ 16 := by
  unfold desL; split
  · rename_i h
    obtain ⟨h0, _⟩ := desC_zero h
    obtain ⟨_, hl, _⟩ := gchk_zero h0
    rw [mapR_len]; exact hl
  · simp
theorem plainGaugeDesigns (x0 : R) (x1 : Int) (x2 : Int) (lex0 : UFit (.sl [(.int .i64), (.int .i64), (.int .i64), (.int .i64), (.int .i64), (.int .i64), .bool]) (.l x0)) (lox1 : IntKind.min .i64 ≤ x1) (hix1 : x1 ≤ IntKind.max .i64) (lox2 : IntKind.min .i64 ≤ x2) (hix2 : x2 ≤ IntKind.max .i64) : (law47_GaugeDesigns_T [.r x0, .i x1, .i x2]).run = some (0, [.b true]) := by
  rw [law47_GaugeDesigns_eq]
  simp only [STD, law47_few_eq, p_law47_awake]
  by_cases h1 : rlen x0 ≤ 32
  · have hl := desL_len x0 x1 x2
    have hst : (ref47_SameElements_T [.r (mapR (elRow (desL x0 x1 x2)) (desL x0 x1 x2).length), .r (desL x0 x1 x2)]).run = some (0, [.b true]) := by
      refine p_ref47_SameElements _ _ (by simp [mapR_len]) (by simp [mapR_len]; omega) fun i hi => ?_
      rw [mapR_len] at hi
      exact elRow_I _ hi
    simp only [h1, STD, p_gauge_Design, p_ref47_Design, p_gauge_Check, p_ref47_Check, p_law47_elements (desL x0 x1 x2) (by omega), hst]
  · simp only [h1, STD]
end Go.Eng
