import Derived.Test.YtcdlfamincogdaaDoorPBonus5
namespace Go.Eng
def tchk (l : R) (i : Nat) : Int := chk (cI l i 0) (cI l i 1) (cI l i 2) (cI l i 3) (cI l i 4) (cI l i 5) (cB l i 6)
def vE (x0 x1 x2 x3 x4 x5 : Int) (x6 : Bool) : Int := if chk x0 x1 x2 x3 x4 x5 x6 ≠ 0 then chk x0 x1 x2 x3 x4 x5 x6 else if x5 ≠ 1 then 14 else 0
def vS (x2 x3 x4 : Int) (x6 : Bool) : Int := if x6 = true then x3 + x4 else x2 - x4
def virtE (l : R) (i : Nat) : Int := vE (cI l i 0) (cI l i 1) (cI l i 2) (cI l i 3) (cI l i 4) (cI l i 5) (cB l i 6)
def vsz (l : R) (i : Nat) : Int := vS (cI l i 2) (cI l i 3) (cI l i 4) (cB l i 6)
def gchk (l : R) : Int := if rlen l = 0 then 13 else if 16 < rlen l then 5 else firstE (virtE l) l.length
theorem vE_zero {x0 x1 x2 x3 x4 x5 : Int} {x6 : Bool} (h : vE x0 x1 x2 x3 x4 x5 x6 = 0) : chk x0 x1 x2 x3 x4 x5 x6 = 0 ∧ x5 = 1 := by
  unfold vE at h
  split at h
  · rename_i h1; exact absurd h h1
  · split at h
    · omega
    · exact ⟨by omega, by omega⟩
theorem gchk_zero {l : R} (h : gchk l = 0) : 0 < l.length ∧ l.length ≤ 16 ∧ ∀ i, i < l.length → virtE l i = 0 := by
  unfold gchk at h
  split at h
  · omega
  · split at h
    · omega
    · rename_i h1 h2
      unfold rlen at h1 h2
      exact ⟨by omega, by omega, firstE_zero h⟩
theorem vsz_bound {l : R} {i : Nat} (h : virtE l i = 0) : 1 ≤ vsz l i ∧ vsz l i ≤ 200000 := by
  obtain ⟨hc, _⟩ := vE_zero h
  obtain ⟨h1, h2, h3, h4, h5, h6, h7, h8, h9, h10, h11, h12, h13, h14⟩ := chk_zero hc
  unfold vsz vS
  split
  · omega
  · rename_i hb; have := h12 (by simpa using hb); omega
theorem p_gauge_few (n : Int) : (gauge_few_T [.i n]).run = some (0, [.i (if 16 < n then 5 else 0)]) := by
  rw [gauge_few_eq]; simp only [STD]; split <;> rfl
theorem p_gauge_virtual_1 (n x0 x1 x2 x3 x4 x5 : Int) (x6 : Bool) : (gauge_virtual_1_T [.i n, .i x0, .i x1, .i x2, .i x3, .i x4, .i x5, .b x6]).run =
    some (0, [.i (if vE x0 x1 x2 x3 x4 x5 x6 = 0 then vS x2 x3 x4 x6 else 0), .i (vE x0 x1 x2 x3 x4 x5 x6)]) := by
  rw [gauge_virtual_1_eq]
  simp only [STD, p_bonus_Virtual]
  unfold vE vS
  by_cases hc : chk x0 x1 x2 x3 x4 x5 x6 = 0
  · by_cases h5 : x5 = 1
    · subst h5; cases x6 <;> simp [hc, STD]
    · simp [hc, h5, STD]
  · simp [hc, STD]
theorem p_gauge_virtual (l : R) : (gauge_virtual_T [.r l]).run = some (0, if gchk l = 0 then [.r (mapR (fun i => [.i (vsz l i)]) l.length), .i 0] else [.r [], .i (gchk l)]) := by
  rw [gauge_virtual_eq]
  unfold gchk
  by_cases h0 : rlen l = 0
  · simp [h0, STD]
  · by_cases h16 : 16 < rlen l
    · simp only [h0, h16, STD, p_gauge_few]; rfl
    · have hl : l.length ≤ 16 := by unfold rlen at h16; omega
      have e : (gauge_mapped_api_Target_int_T [.r l]).run = some (0, if firstE (virtE l) l.length = 0 then [.r (mapR (fun i => [.i (vsz l i)]) l.length), .i 0] else [.r [], .i (firstE (virtE l) l.length)]) := by
        rw [gauge_mapped_api_Target_int_eq]
        have k := loop_err (S := gauge_mapped_api_Target_int_L4S) (fun i => [.r l, .i (rlen l), .i (i : Int), .r (mapR (fun i => [.i (vsz l i)]) i)]) (virtE l) [] [.r (mapR (fun i => [.i (vsz l i)]) l.length)] l.length (by omega) (fun i hi => by
          rw [gauge_mapped_api_Target_int_L4eq]
          simp only [STD, idx_lt hi, idx_nn, p_gauge_virtual_1, and_self]
          show (if ¬ virtE l i = 0 then _ else _) = _
          by_cases he : virtE l i = 0
          · have he' : vE (cI l i 0) (cI l i 1) (cI l i 2) (cI l i 3) (cI l i 4) (cI l i 5) (cB l i 6) = 0 := he
            simp only [he, he', STD, wsucc hi (by omega)]
            rw [if_pos (mapR_room hi (by omega) _), ← mapR_succ]; rfl
          · simp only [he, STD]; rfl) (by
          rw [gauge_mapped_api_Target_int_L4eq]
          simp only [STD, idx_end])
        by_cases hf : firstE (virtE l) l.length = 0
        · rw [if_pos hf] at k ⊢
          have k' : (loopT gauge_mapped_api_Target_int_L4S [.r l, .i (rlen l), .i 0, .r []]).run = _ := k
          simp only [STD, k', jIs_of k']
        · rw [if_neg hf] at k ⊢
          have k' : (loopT gauge_mapped_api_Target_int_L4S [.r l, .i (rlen l), .i 0, .r []]).run = _ := k
          simp only [STD, k', jIs_of k', show ¬ ((1 : Nat) = 0) by decide]
      simp only [h0, h16, STD, p_gauge_few, e]
      by_cases hf : firstE (virtE l) l.length = 0 <;> simp [hf, STD]
end Go.Eng
