import Derived.Test.YtcdlfamincogdaaDoorPGauge
namespace Go.Eng
theorem p_gauge_ranged (n : Int) : (gauge_ranged_T [.i n]).run = some (0, [.b (decide (1 ≤ n ∧ n ≤ 300000))]) := by
  rw [gauge_ranged_eq]; simp only [STD]; by_cases h : 1 ≤ n <;> simp [h, ile]
theorem p_ref47_size (n : Int) : (ref47_size_T [.i n]).run = some (0, [.b (decide (1 ≤ n ∧ n ≤ 300000))]) := by
  rw [ref47_size_eq]; simp only [STD]; by_cases h : 1 ≤ n <;> simp [h, ile]
def limC (lo hi : Int) : Int := if ¬ (1 ≤ lo ∧ lo ≤ 300000) then 2 else if ¬ (1 ≤ hi ∧ hi ≤ 300000) then 2 else if hi < lo then 9 else 0
theorem limC_zero {lo hi : Int} (h : limC lo hi = 0) : 1 ≤ lo ∧ lo ≤ hi ∧ hi ≤ 300000 := by
  unfold limC at h; repeat' split at h
  all_goals omega
theorem p_gauge_limits (lo hi : Int) : (gauge_limits_T [.i lo, .i hi]).run = some (0, [.i (limC lo hi)]) := by
  rw [gauge_limits_eq]; simp only [STD, p_gauge_ranged]; unfold limC
  repeat' split
  all_goals first | rfl | omega
theorem p_ref47_limits (a b : Int) (c : Bool) (lo hi : Int) : (ref47_limits_T [.i a, .i b, .b c, .i lo, .i hi]).run = some (0, [.i (limC lo hi)]) := by
  rw [ref47_limits_eq]; simp only [STD, p_ref47_size]; unfold limC
  repeat' split
  all_goals first | rfl | omega
theorem p_ref44_Gauge1 (x0 x1 x2 x3 x4 x5 : Int) (x6 : Bool) (h : vE x0 x1 x2 x3 x4 x5 x6 = 0) : (ref44_Gauge_T [.i x0, .i x1, .i x2, .i x3, .i x4, .i x5, .b x6]).run = some (0, [.i (vS x2 x3 x4 x6)]) := by
  obtain ⟨hc, h5⟩ := vE_zero h
  obtain ⟨h1, h2, h3, h4, h5', h6, h7, h8, h9, h10, h11, h12, h13, h14⟩ := chk_zero hc
  subst h5
  rw [p_ref44_Gauge]
  unfold vS
  cases x6
  · simp only [show ((1 : Int) = 2) = False by simp, show (false = true) = False by simp, if_true, if_false]; rw [wsub_eq (by omega)]
  · simp only [show ((1 : Int) = 2) = False by simp, if_true]; rw [wadd_eq (by omega)]; simp
/-- the place of an element is that of its target -/
def sameAt (l g : R) (i : Nat) : Prop := (cI g i 0 = cI l i 0 ∧ cI g i 1 = cI l i 1) ∧ cB g i 2 = cB l i 6
instance (l g : R) (i : Nat) : Decidable (sameAt l g i) := by unfold sameAt; exact inferInstance
def lossE (l g : R) (i : Nat) : Int := if limC (cI g i 3) (cI g i 4) ≠ 0 then limC (cI g i 3) (cI g i 4) else if sameAt l g i then 0 else 16
def lossLo (l g : R) (i : Nat) : Int := if cB g i 2 = true then vsz l i - cI g i 4 else cI g i 3 - vsz l i
def lossHi (l g : R) (i : Nat) : Int := if cB g i 2 = true then vsz l i - cI g i 3 else cI g i 4 - vsz l i
theorem lossE_zero {l g : R} {i : Nat} (h : lossE l g i = 0) : (1 ≤ cI g i 3 ∧ cI g i 3 ≤ cI g i 4 ∧ cI g i 4 ≤ 300000) ∧ sameAt l g i := by
  unfold lossE at h
  split at h
  · rename_i h1; exact absurd h h1
  · rename_i h1
    split at h
    · exact ⟨limC_zero (by omega), by assumption⟩
    · omega
theorem p_gauge_losses_1 (l g s : R) (i : Nat) (hi : i < l.length) (hs : i < s.length) (hb : 0 ≤ cI s i 0 ∧ cI s i 0 ≤ 300000) (he : cI s i 0 = vsz l i) :
    (gauge_losses_1_T [.i (i : Int), .i (cI g i 0), .i (cI g i 1), .b (cB g i 2), .i (cI g i 3), .i (cI g i 4), .r l, .r s]).run =
      some (0, if lossE l g i = 0 then [.i (lossLo l g i), .i (lossHi l g i), .i 0, .r l, .r s] else [.i 0, .i 0, .i (lossE l g i), .r l, .r s]) := by
  rw [gauge_losses_1_eq]
  simp only [STD, p_gauge_limits, idx_lt hi, idx_lt hs, idx_nn, and_self, and_true]
  by_cases hl : limC (cI g i 3) (cI g i 4) = 0
  · obtain ⟨b1, b2, b3⟩ := limC_zero hl
    by_cases h1 : cI g i 0 = cI l i 0 ∧ cI g i 1 = cI l i 1
    · by_cases h2 : cB g i 2 = cB l i 6
      · have h0 : lossE l g i = 0 := by unfold lossE sameAt; simp [hl, h1, h2]
        rw [if_pos h0]
        unfold lossLo lossHi
        rw [← he]
        have e1 : wsub .i64 (cI s i 0) (cI g i 4) = cI s i 0 - cI g i 4 := wsub_eq (by omega)
        have e2 : wsub .i64 (cI s i 0) (cI g i 3) = cI s i 0 - cI g i 3 := wsub_eq (by omega)
        have e3 : wsub .i64 (cI g i 3) (cI s i 0) = cI g i 3 - cI s i 0 := wsub_eq (by omega)
        have e4 : wsub .i64 (cI g i 4) (cI s i 0) = cI g i 4 - cI s i 0 := wsub_eq (by omega)
        simp only [hl, h1, h2, STD, e1, e2, e3, e4, and_self]
        cases cB l i 6 <;> simp
      · have h0 : lossE l g i = 16 := by unfold lossE sameAt; simp [hl, h1, h2]
        simp [hl, h1, h2, h0]
    · have h0 : lossE l g i = 16 := by unfold lossE sameAt; simp only [hl, h1]; simp
      simp [hl, h1, h0]
  · have h0 : lossE l g i = limC (cI g i 3) (cI g i 4) := by unfold lossE; simp [hl]
    simp [hl, h0]
def negE (l g : R) (i : Nat) : Int := if lossLo l g i < 0 then 15 else 0
def safeC (l g : R) : Int := if gchk l ≠ 0 then gchk l else if rlen g ≠ rlen l then 8 else if firstE (lossE l g) g.length ≠ 0 then firstE (lossE l g) g.length else firstE (negE l g) g.length
def lossRow (l g : R) (i : Nat) : List U := [.i (lossLo l g i), .i (lossHi l g i)]
theorem safeC_zero {l g : R} (h : safeC l g = 0) : gchk l = 0 ∧ g.length = l.length ∧ (∀ i, i < g.length → lossE l g i = 0) ∧ ∀ i, i < g.length → 0 ≤ lossLo l g i := by
  unfold safeC at h
  split at h
  · rename_i h1; exact absurd h h1
  · split at h
    · omega
    · split at h
      · rename_i h1; exact absurd h h1
      · rename_i h1 h2 h3
        refine ⟨by omega, by unfold rlen at h2; omega, firstE_zero (by omega), fun i hi => ?_⟩
        have := firstE_zero h i hi
        unfold negE at this
        split at this <;> omega
theorem p_gauge_mapped_losses (l g : R) (hl : l.length ≤ 16) (hgl : g.length = l.length) (hv : ∀ i, i < l.length → virtE l i = 0) :
    (gauge_mapped_gauge_Element_api_Limits_T [.r g, .r l, .r (mapR (fun i => [.i (vsz l i)]) l.length)]).run =
      some (0, if firstE (lossE l g) g.length = 0 then [.r (mapR (lossRow l g) g.length), .i 0, .r l, .r (mapR (fun i => [.i (vsz l i)]) l.length)] else [.r [], .i (firstE (lossE l g) g.length), .r l, .r (mapR (fun i => [.i (vsz l i)]) l.length)]) := by
  rw [gauge_mapped_gauge_Element_api_Limits_eq]
  generalize hs : mapR (fun i => [.i (vsz l i)]) l.length = s
  have hsl : s.length = l.length := by rw [← hs, mapR_len]
  have hsi : ∀ i, i < l.length → cI s i 0 = vsz l i := fun i hi => by rw [← hs, cI_mapR _ hi]; rfl
  have k := loop_err (S := gauge_mapped_gauge_Element_api_Limits_L4S) (fun i => [.r g, .i (rlen g), .i (i : Int), .r l, .r s, .r (mapR (lossRow l g) i)]) (lossE l g) [.r l, .r s] [.r l, .r s, .r (mapR (lossRow l g) g.length)] g.length (by omega) (fun i hi => by
    have hil : i < l.length := by omega
    have hb := vsz_bound (hv i hil)
    rw [gauge_mapped_gauge_Element_api_Limits_L4eq]
    simp only [STD, idx_lt hi, idx_nn, and_self, p_gauge_losses_1 l g s i hil (by omega) (by rw [hsi i hil]; omega) (hsi i hil)]
    by_cases he : lossE l g i = 0
    · simp only [he, STD, wsucc hi (by omega)]
      rw [if_pos (mapR_room hi (by omega) _), ← mapR_succ]; rfl
    · simp [he, STD]) (by
    rw [gauge_mapped_gauge_Element_api_Limits_L4eq]
    simp only [STD, idx_end])
  by_cases hf : firstE (lossE l g) g.length = 0
  · rw [if_pos hf] at k ⊢
    have k' : (loopT gauge_mapped_gauge_Element_api_Limits_L4S [.r g, .i (rlen g), .i 0, .r l, .r s, .r []]).run = _ := k
    simp only [STD, k', jIs_of k']
  · rw [if_neg hf] at k ⊢
    have k' : (loopT gauge_mapped_gauge_Element_api_Limits_L4S [.r g, .i (rlen g), .i 0, .r l, .r s, .r []]).run = _ := k
    simp only [STD, k', jIs_of k', show ¬ ((1 : Nat) = 0) by decide]
theorem p_gauge_losses (l g : R) : (gauge_losses_T [.r l, .r g]).run = some (0, if safeC l g = 0 then [.r (mapR (lossRow l g) g.length), .i 0] else [.r [], .i (safeC l g)]) := by
  rw [gauge_losses_eq]
  unfold safeC
  by_cases h0 : gchk l = 0
  · obtain ⟨hp, hl, hv⟩ := gchk_zero h0
    by_cases hg : rlen g = rlen l
    · have hgl : g.length = l.length := by unfold rlen at hg; omega
      have e := p_gauge_mapped_losses l g hl hgl hv
      by_cases hf : firstE (lossE l g) g.length = 0
      · rw [if_pos hf] at e
        generalize hm : mapR (lossRow l g) g.length = m at e ⊢
        have hml : m.length = g.length := by rw [← hm, mapR_len]
        have hmi : ∀ i, i < g.length → cI m i 0 = lossLo l g i := fun i hi => by rw [← hm, cI_mapR _ hi]; rfl
        have k := loop_err (S := gauge_losses_L14S) (fun i => [.r m, .r m, .i (rlen m), .i (i : Int)]) (negE l g) [] [.r m] g.length (by omega) (fun i hi => by
          rw [gauge_losses_L14eq]
          have him : i < m.length := by omega
          simp only [STD, idx_lt him, idx_nn, and_self, hmi i hi, wsucc hi (by omega)]
          unfold negE
          split <;> simp) (by
          rw [gauge_losses_L14eq, ← hml]
          simp only [STD, idx_end])
        by_cases hn : firstE (negE l g) g.length = 0
        · rw [if_pos hn] at k
          have k' : (loopT gauge_losses_L14S [.r m, .r m, .i (rlen m), .i 0]).run = _ := k
          simp only [STD, p_gauge_virtual, h0, hg, e, k', jIs_of k', hf, hn]
        · rw [if_neg hn] at k
          have k' : (loopT gauge_losses_L14S [.r m, .r m, .i (rlen m), .i 0]).run = _ := k
          simp only [STD, p_gauge_virtual, h0, hg, e, k', jIs_of k', hf, hn, show ¬ ((1 : Nat) = 0) by decide]
      · rw [if_neg hf] at e
        simp only [STD, p_gauge_virtual, h0, hg, e, hf]
    · simp [STD, p_gauge_virtual, h0, hg]
  · simp only [STD, p_gauge_virtual, h0]
theorem p_gauge_Safe (l g : R) : (gauge_Safe_T [.r l, .r g]).run = some (0, [.i (safeC l g)]) := by
  rw [gauge_Safe_eq]
  by_cases h : safeC l g = 0 <;> simp [STD, p_gauge_losses, h]
/-- the greatest of numbers that are not negative -/
def maxF (f : Nat → Int) : Nat → Int
  | 0 => 0
  | n + 1 => imax (maxF f n) (f n)
theorem maxF_nn (f : Nat → Int) : ∀ n, 0 ≤ maxF f n
  | 0 => by simp [maxF]
  | n + 1 => by have := maxF_nn f n; simp only [maxF, imax]; split <;> omega
theorem p_gauge_Loss (l g : R) : (gauge_Loss_T [.r l, .r g]).run = some (0, if safeC l g = 0 then [.i (maxF (lossHi l g) g.length), .i 0] else [.i 0, .i (safeC l g)]) := by
  rw [gauge_Loss_eq]
  by_cases h : safeC l g = 0
  · obtain ⟨h0, hgl, _⟩ := safeC_zero h
    obtain ⟨_, hl, _⟩ := gchk_zero h0
    generalize hm : mapR (lossRow l g) g.length = m
    have hml : m.length = g.length := by rw [← hm, mapR_len]
    have hmi : ∀ i, i < g.length → cI m i 1 = lossHi l g i := fun i hi => by rw [← hm, cI_mapR _ hi]; rfl
    have k : (loopT gauge_Loss_L8S [.i 0, .r m, .i (rlen m), .i 0]).run = some (0, [.i (maxF (lossHi l g) g.length)]) := by
      refine loop_count (S := gauge_Loss_L8S) (fun i => [.i (maxF (lossHi l g) i), .r m, .i (rlen m), .i (i : Int)]) (0, _) g.length (by omega) (fun i hi => ?_) ?_
      · rw [gauge_Loss_L8eq]
        have him : i < m.length := by omega
        simp only [STD, idx_lt him, idx_nn, and_self, hmi i hi, wsucc hi (by omega)]; rfl
      · rw [gauge_Loss_L8eq, ← hml]
        simp only [STD, idx_end]
    simp only [STD, p_gauge_losses, h, hm, k]
  · simp only [STD, p_gauge_losses, h]
/-! ### The reference -/
theorem p_ref47_Check (l : R) : (ref47_Check_T [.r l]).run = some (0, [.i (gchk l)]) := by
  rw [ref47_Check_eq]
  unfold gchk
  by_cases h0 : rlen l = 0
  · simp [h0, STD]
  · by_cases h16 : 16 < rlen l
    · simp [h0, h16, STD]
    · have hl : l.length ≤ 16 := by unfold rlen at h16; omega
      have k := loop_err (S := ref47_Check_L9S) (fun i => [.r l, .i (i : Int)]) (virtE l) [] [] l.length (by omega) (fun i hi => by
        rw [ref47_Check_L9eq]
        simp only [STD, idx_lt hi, idx_nn, p_ref44_Check, and_self, wsucc hi (by omega)]
        unfold virtE vE
        by_cases hc : chk (cI l i 0) (cI l i 1) (cI l i 2) (cI l i 3) (cI l i 4) (cI l i 5) (cB l i 6) = 0
        · by_cases h5 : cI l i 5 = 1
          · rw [h5] at hc; simp [hc, h5]
          · simp [hc, h5]
        · simp [hc]) (by
        rw [ref47_Check_L9eq]
        simp only [STD, idx_end])
      by_cases hf : firstE (virtE l) l.length = 0
      · rw [if_pos hf] at k
        have k' : (loopT ref47_Check_L9S [.r l, .i 0]).run = _ := k
        simp [h0, h16, STD, k', jIs_of k', hf]
      · rw [if_neg hf] at k
        have k' : (loopT ref47_Check_L9S [.r l, .i 0]).run = _ := k
        simp [h0, h16, STD, k', jIs_of k']
theorem p_gauge_Check (l : R) : (gauge_Check_T [.r l]).run = some (0, [.i (gchk l)]) := by
  rw [gauge_Check_eq]
  by_cases h : gchk l = 0 <;> simp [STD, p_gauge_virtual, h]
theorem p_ref47_Beyond (x0 x1 x2 x3 x4 x5 : Int) (x6 : Bool) (n : Int) (h : vE x0 x1 x2 x3 x4 x5 x6 = 0) : (ref47_Beyond_T [.i x0, .i x1, .i x2, .i x3, .i x4, .i x5, .b x6, .i n]).run =
    some (0, [.b (if x6 = true then ilt (vS x2 x3 x4 x6) n else ilt n (vS x2 x3 x4 x6))]) := by
  rw [ref47_Beyond_eq]
  simp only [STD, p_ref44_Gauge1 x0 x1 x2 x3 x4 x5 x6 h]
  split <;> rfl
def beyE (l g : R) (i : Nat) : Int := if (if cB l i 6 = true then vsz l i < cI g i 3 ∨ vsz l i < cI g i 4 else cI g i 3 < vsz l i ∨ cI g i 4 < vsz l i) then 15 else 0
theorem beyE_neg {l g : R} {i : Nat} (h : lossE l g i = 0) : beyE l g i = negE l g i := by
  obtain ⟨⟨h1, h2, h3⟩, _, h4⟩ := lossE_zero h
  unfold beyE negE lossLo
  rw [h4]
  cases cB l i 6 <;> simp <;> (repeat' split) <;> omega
theorem p_ref47_Safe (l g : R) : (ref47_Safe_T [.r l, .r g]).run = some (0, [.i (safeC l g)]) := by
  rw [ref47_Safe_eq]
  unfold safeC
  by_cases h0 : gchk l = 0
  · obtain ⟨hp, hl, hv⟩ := gchk_zero h0
    by_cases hg : rlen g = rlen l
    · have hgl : g.length = l.length := by unfold rlen at hg; omega
      have k := loop_err (S := ref47_Safe_L10S) (fun i => [.r l, .r g, .i (i : Int)]) (lossE l g) [] [.r l, .r g] g.length (by omega) (fun i hi => by
        have hil : i < l.length := by omega
        rw [ref47_Safe_L10eq]
        simp only [STD, idx_lt hi, idx_lt hil, idx_nn, p_ref47_limits, and_self, and_true, wsucc hi (by omega)]
        unfold lossE sameAt
        by_cases hlm : limC (cI g i 3) (cI g i 4) = 0
        · by_cases h1 : cI g i 0 = cI l i 0 ∧ cI g i 1 = cI l i 1
          · by_cases h2 : cB g i 2 = cB l i 6
            · simp [hlm, h1, h2]
            · simp [hlm, h1, h2]
          · simp only [hlm, h1]; simp
        · simp [hlm]) (by
        rw [ref47_Safe_L10eq]
        simp only [STD, idx_end])
      by_cases hf : firstE (lossE l g) g.length = 0
      · rw [if_pos hf] at k
        have k' : (loopT ref47_Safe_L10S [.r l, .r g, .i 0]).run = _ := k
        have q := loop_err (S := ref47_Safe_L22S) (fun i => [.r l, .r g, .i (i : Int)]) (beyE l g) [] [] g.length (by omega) (fun i hi => by
          have hil : i < l.length := by omega
          rw [ref47_Safe_L22eq]
          have hb1 := p_ref47_Beyond (cI l i 0) (cI l i 1) (cI l i 2) (cI l i 3) (cI l i 4) (cI l i 5) (cB l i 6) (cI g i 3) (hv i hil)
          have hb2 := p_ref47_Beyond (cI l i 0) (cI l i 1) (cI l i 2) (cI l i 3) (cI l i 4) (cI l i 5) (cB l i 6) (cI g i 4) (hv i hil)
          simp only [STD, idx_lt hi, idx_lt hil, idx_nn, hb1, hb2, and_self, wsucc hi (by omega)]
          unfold beyE vsz
          cases cB l i 6 <;> simp only [STD, Bool.false_eq_true] <;> (repeat' split) <;> first | rfl | (exfalso; omega) | simp_all) (by
          rw [ref47_Safe_L22eq]
          simp only [STD, idx_end])
        rw [firstE_congr fun i hi => beyE_neg (firstE_zero hf i hi)] at q
        by_cases hn : firstE (negE l g) g.length = 0
        · rw [if_pos hn] at q
          have q' : (loopT ref47_Safe_L22S [.r l, .r g, .i 0]).run = _ := q
          simp [STD, p_ref47_Check, h0, hg, k', jIs_of k', hf, q', jIs_of q', hn]
        · rw [if_neg hn] at q
          have q' : (loopT ref47_Safe_L22S [.r l, .r g, .i 0]).run = _ := q
          simp [STD, p_ref47_Check, h0, hg, k', jIs_of k', hf, q', jIs_of q']
      · rw [if_neg hf] at k
        have k' : (loopT ref47_Safe_L10S [.r l, .r g, .i 0]).run = _ := k
        simp [STD, p_ref47_Check, h0, hg, k', jIs_of k', hf]
    · simp [STD, p_ref47_Check, h0, hg]
  · simp [STD, p_ref47_Check, h0]
theorem p_ref47_Loss (l g : R) : (ref47_Loss_T [.r l, .r g]).run = some (0, if safeC l g = 0 then [.i (maxF (lossHi l g) g.length), .i 0] else [.i 0, .i (safeC l g)]) := by
  rw [ref47_Loss_eq]
  by_cases h : safeC l g = 0
  · obtain ⟨h0, hgl, hls, hnn⟩ := safeC_zero h
    obtain ⟨_, hl, hv⟩ := gchk_zero h0
    have k : (loopT ref47_Loss_L8S [.r l, .r g, .i 0, .i 0]).run = some (0, [.i (maxF (lossHi l g) g.length)]) := by
      refine loop_count (S := ref47_Loss_L8S) (fun i => [.r l, .r g, .i (maxF (lossHi l g) i), .i (i : Int)]) (0, _) g.length (by omega) (fun i hi => ?_) ?_
      · rw [ref47_Loss_L8eq]
        have hil : i < l.length := by omega
        have hg1 := p_ref44_Gauge1 (cI l i 0) (cI l i 1) (cI l i 2) (cI l i 3) (cI l i 4) (cI l i 5) (cB l i 6) (hv i hil)
        have hb := vsz_bound (hv i hil)
        obtain ⟨⟨b1, b2, b3⟩, _, b4⟩ := lossE_zero (hls i hi)
        have b5 := hnn i hi
        have b6 := maxF_nn (lossHi l g) i
        have hvs : vS (cI l i 2) (cI l i 3) (cI l i 4) (cB l i 6) = vsz l i := rfl
        have e1 : wsub .i64 (cI g i 4) (vsz l i) = cI g i 4 - vsz l i := wsub_eq (by omega)
        have e2 : wsub .i64 (vsz l i) (cI g i 3) = vsz l i - cI g i 3 := wsub_eq (by omega)
        have em : imax (imax (maxF (lossHi l g) i) (cI g i 4 - vsz l i)) (vsz l i - cI g i 3) = maxF (lossHi l g) (i + 1) := by
          simp only [maxF]
          unfold lossLo at b5
          generalize maxF (lossHi l g) i = m at *
          clear hg1 hvs e1 e2 hv hls hnn
          unfold lossHi imax
          cases hh : cB g i 2 <;> rw [hh] at b5 <;> simp only [Bool.false_eq_true, if_false, if_true] at b5 ⊢ <;> (repeat' split) <;> omega
        simp only [STD, idx_lt hi, idx_lt hil, idx_nn, and_self, hg1, hvs, e1, e2, wsucc hi (by omega), em]
      · rw [ref47_Loss_L8eq]
        simp only [STD, idx_end]
    simp only [STD, p_ref47_Safe, h, k]
  · simp only [STD, p_ref47_Safe, h]
end Go.Eng
