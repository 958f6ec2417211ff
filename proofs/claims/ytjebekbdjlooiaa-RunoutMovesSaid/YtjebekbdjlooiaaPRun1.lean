import Derived.Test.YtjebekbdjlooiaaQ
import Derived.Test.YtjebekbdjlooiaaEngP
namespace Go.Eng
def ptE (x y : Int) : Int := if -100000 ≤ x ∧ x ≤ 100000 ∧ -100000 ≤ y ∧ y ≤ 100000 then 0 else 2
def ptA (l : R) (i : Nat) : Int := ptE (cI l i 0) (cI l i 1)
def vchk (l : R) : Int := if 64 < rlen l then 5 else firstE (ptA l) l.length
theorem ptE_cases (x y : Int) : ptE x y = 0 ∨ ptE x y = 2 := by unfold ptE; split <;> simp
theorem ptE_zero {x y : Int} (h : ptE x y = 0) : -100000 ≤ x ∧ x ≤ 100000 ∧ -100000 ≤ y ∧ y ≤ 100000 := by
  unfold ptE at h; split at h
  · assumption
  · omega
theorem p_vector_within (x : Int) : (vector_within_T [.i x]).run = some (0, [.b (decide (-100000 ≤ x ∧ x ≤ 100000))]) := by
  rw [vector_within_eq]; simp only [STD]; by_cases h : -100000 ≤ x <;> simp [h, ile]
theorem p_ref07_in (x : Int) : (ref07_in_T [.i x]).run = some (0, [.b (decide (-100000 ≤ x ∧ x ≤ 100000))]) := by
  rw [ref07_in_eq]; simp only [STD]; by_cases h : -100000 ≤ x <;> simp [h, ile]
theorem p_ref38_in (x : Int) : (ref38_in_T [.i x]).run = some (0, [.b (decide (-100000 ≤ x ∧ x ≤ 100000))]) := by
  rw [ref38_in_eq]; simp only [STD]; by_cases h : -100000 ≤ x <;> simp [h, ile]
theorem p_vector_flat (x y : Int) : (vector_flat_T [.i x, .i y]).run = some (0, [.b (decide (ptE x y = 0))]) := by
  rw [vector_flat_eq]; simp only [STD, p_vector_within]; unfold ptE
  by_cases h : -100000 ≤ x <;> by_cases h2 : x ≤ 100000 <;> by_cases h3 : -100000 ≤ y <;> by_cases h4 : y ≤ 100000 <;> simp [h, h2, h3, h4]
theorem p_ref07_Right (x y : Int) : (ref07_Right_T [.i x, .i y]).run = some (0, [.b (decide (ptE x y = 0))]) := by
  rw [ref07_Right_eq]; simp only [STD, p_ref07_in]; unfold ptE
  by_cases h : -100000 ≤ x <;> by_cases h2 : x ≤ 100000 <;> by_cases h3 : -100000 ≤ y <;> by_cases h4 : y ≤ 100000 <;> simp [h, h2, h3, h4]
theorem p_vector_all (l : R) (hl : l.length < 9223372036854775808) : (vector_all_api_Point_T [.r l]).run = some (0, [.i (firstE (ptA l) l.length)]) := by
  rw [vector_all_api_Point_eq]
  have k := loop_err (S := vector_all_api_Point_L3S) (fun i => [.r l, .i (rlen l), .i (i : Int)]) (ptA l) [] [] l.length hl (fun i hi => by
    rw [vector_all_api_Point_L3eq]
    simp only [STD, idx_lt hi, idx_nn, p_vector_flat, and_self, wsucc hi hl]
    show (if ¬ ptA l i = 0 then _ else _) = _
    have := ptE_cases (cI l i 0) (cI l i 1)
    by_cases he : ptA l i = 0
    · simp [he]
    · have : ptA l i = 2 := by unfold ptA at *; omega
      simp [this]) (by
    rw [vector_all_api_Point_L3eq]
    simp only [STD, idx_end])
  by_cases hf : firstE (ptA l) l.length = 0
  · rw [if_pos hf] at k
    have k' : (loopT vector_all_api_Point_L3S [.r l, .i (rlen l), .i 0]).run = _ := k
    simp only [STD, k', jIs_of k', hf]
  · rw [if_neg hf] at k
    have k' : (loopT vector_all_api_Point_L3S [.r l, .i (rlen l), .i 0]).run = _ := k
    simp only [STD, k', jIs_of k', show ¬ ((1 : Nat) = 0) by decide]
theorem p_vector_Check (l : R) : (vector_Check_T [.r l]).run = some (0, [.i (vchk l)]) := by
  rw [vector_Check_eq]
  have e : (vector_checked_api_Point_T [.r l]).run = some (0, [.i (vchk l)]) := by
    rw [vector_checked_api_Point_eq]
    unfold vchk
    by_cases h : 64 < rlen l
    · simp only [STD, h]
    · simp only [STD, h, p_vector_all l (by unfold rlen at h; omega)]
  simp only [STD, e]
theorem p_ref07_Check (l : R) : (ref07_Check_T [.r l]).run = some (0, [.i (vchk l)]) := by
  rw [ref07_Check_eq]
  unfold vchk
  by_cases h : 64 < rlen l
  · simp only [STD, h]
  · have hl : l.length < 9223372036854775808 := by unfold rlen at h; omega
    have k := loop_err (S := ref07_Check_L6S) (fun i => [.r l, .i (i : Int)]) (ptA l) [] [] l.length hl (fun i hi => by
      rw [ref07_Check_L6eq]
      simp only [STD, idx_lt hi, idx_nn, p_ref07_Right, and_self, wsucc hi hl]
      show (if ¬ ptA l i = 0 then _ else _) = _
      have := ptE_cases (cI l i 0) (cI l i 1)
      by_cases he : ptA l i = 0
      · simp [he]
      · have : ptA l i = 2 := by unfold ptA at *; omega
        simp [this]) (by
      rw [ref07_Check_L6eq]
      simp only [STD, idx_end])
    by_cases hf : firstE (ptA l) l.length = 0
    · rw [if_pos hf] at k
      have k' : (loopT ref07_Check_L6S [.r l, .i 0]).run = _ := k
      simp only [STD, k', jIs_of k', hf, h]
    · rw [if_neg hf] at k
      have k' : (loopT ref07_Check_L6S [.r l, .i 0]).run = _ := k
      simp only [STD, k', jIs_of k', h, show ¬ ((1 : Nat) = 0) by decide]
theorem vchk_one (x y : Int) : vchk [[.i x, .i y]] = ptE x y := by
  have h := ptE_cases x y
  have hp : ptA [[.i x, .i y]] 0 = ptE x y := rfl
  unfold vchk firstE
  rw [if_neg (by simp [rlen])]
  simp only [List.length_cons, List.length_nil, scan, errAt, hp]
  rcases h with h | h <;> simp [h]
theorem p_runout_right (x y : Int) : (runout_right_T [.i x, .i y]).run = some (0, [.b (decide (ptE x y = 0))]) := by
  rw [runout_right_eq]; simp only [STD, p_vector_Check, vchk_one]; rfl
/-! ### sections -/
def secE (l : R) (i : Nat) : Int :=
  if ¬ (-100000 ≤ cI l i 0 ∧ cI l i 0 ≤ 100000) then 2 else if 0 < i ∧ cI l i 0 ≤ cI l ((i - 1 : Nat) : Int) 0 then 9 else if rlen (cR l i 1) = 0 then 13 else vchk (cR l i 1)
def schk (l : R) : Int := if rlen l = 0 then 13 else if 32 < rlen l then 5 else firstE (secE l) l.length
theorem p_runout_section (l : R) (i : Nat) (m : R) (hm : 0 < i → m = l) : (runout_section_T [.i (cI l i 0), .r (cR l i 1), .b (decide (0 < i)), .r m, .i ((i - 1 : Nat) : Int)]).run = some (0, [.i (secE l i)]) := by
  rw [runout_section_eq]
  simp only [STD, p_vector_Check]
  unfold secE
  by_cases h1 : cI l i 0 < -100000
  · simp [h1, show ¬ (-100000 ≤ cI l i 0) by omega]
  · by_cases h2 : 100000 < cI l i 0
    · simp [h1, h2, show ¬ (cI l i 0 ≤ 100000) by omega]
    · have h12 : -100000 ≤ cI l i 0 ∧ cI l i 0 ≤ 100000 := by omega
      by_cases h3 : 0 < i
      · obtain rfl := hm h3
        by_cases h4 : cI m i 0 ≤ cI m ((i - 1 : Nat) : Int) 0 <;> by_cases h5 : rlen (cR m i 1) = 0 <;> simp [h1, h2, h12, h3, h4, h5]
      · by_cases h5 : rlen (cR l i 1) = 0 <;> simp [h1, h2, h12, h3, h5]
theorem p_runout_Check (l : R) : (runout_Check_T [.r l]).run = some (0, [.i (schk l)]) := by
  rw [runout_Check_eq]
  unfold schk
  by_cases h0 : rlen l = 0
  · simp only [STD, h0]
  by_cases h : 32 < rlen l
  · simp only [STD, h0, h]
  · have hl : l.length < 9223372036854775808 := by unfold rlen at h; omega
    have k := loop_err (S := runout_Check_G61L2S) (fun i => [.b (decide (0 < i)), .r (if i = 0 then [] else l), .i ((i - 1 : Nat) : Int), .i (rlen l), .i (i : Int), .i 0, .r l]) (secE l) [.r l] [.i 0, .r l] l.length hl (fun i hi => by
      rw [runout_Check_G61L2eq]
      simp only [STD, idx_lt hi, idx_nn, p_runout_section l i (if i = 0 then [] else l) (fun h => by simp [show ¬ i = 0 by omega]), and_self, wsucc hi hl]
      by_cases he : secE l i = 0
      · simp [he]
      · simp [he]) (by
      rw [runout_Check_G61L2eq]
      simp only [STD, idx_end])
    by_cases hf : firstE (secE l) l.length = 0
    · rw [if_pos hf] at k
      have k' : (loopT runout_Check_G61L2S [.b false, .r [], .i 0, .i (rlen l), .i 0, .i 0, .r l]).run = _ := k
      simp only [STD, k', jIs_of k', hf, h, h0]
    · rw [if_neg hf] at k
      have k' : (loopT runout_Check_G61L2S [.b false, .r [], .i 0, .i (rlen l), .i 0, .i 0, .r l]).run = _ := k
      simp only [STD, k', jIs_of k', h, h0, show ¬ ((1 : Nat) = 0) by decide]
theorem p_ref38_points (l : R) : (ref38_points_T [.r l]).run = some (0, [.i (if rlen l = 0 then 13 else vchk l)]) := by
  rw [ref38_points_eq]; simp only [STD, p_ref07_Check]; split <;> rfl
theorem p_ref38_Check (l : R) : (ref38_Check_T [.r l]).run = some (0, [.i (schk l)]) := by
  rw [ref38_Check_eq]
  unfold schk
  by_cases h0 : rlen l = 0
  · simp only [STD, h0]
  by_cases h : 32 < rlen l
  · simp only [STD, h0, h]
  · have hl : l.length < 9223372036854775808 := by unfold rlen at h; omega
    have k := loop_err (S := ref38_Check_L9S) (fun i => [.r l, .i (i : Int)]) (secE l) [] [] l.length hl (fun i hi => by
      rw [ref38_Check_L9eq]
      simp only [STD, idx_lt hi, idx_nn, p_ref38_in, p_ref38_points, and_self, wsucc hi hl]
      unfold secE
      by_cases h12 : -100000 ≤ cI l i 0 ∧ cI l i 0 ≤ 100000
      · by_cases h3 : 0 < i
        · have h3' : (0 : Int) < (i : Int) := by omega
          have hp : wsub .i64 (i : Int) 1 = ((i - 1 : Nat) : Int) := by rw [wsub_eq (by omega)]; omega
          have hb : ((i - 1 : Nat) : Int) < rlen l := by unfold rlen; omega
          by_cases h4 : cI l i 0 ≤ cI l ((i - 1 : Nat) : Int) 0 <;> by_cases h5 : rlen (cR l i 1) = 0 <;> by_cases h6 : vchk (cR l i 1) = 0 <;>
            simp [h12, h3, h3', hp, hb, idx_nn, h4, h5, h6]
        · have h3' : ¬ (0 : Int) < (i : Int) := by omega
          by_cases h5 : rlen (cR l i 1) = 0 <;> by_cases h6 : vchk (cR l i 1) = 0 <;> simp [h12, h3, h3', h5, h6]
      · simp [h12]) (by
      rw [ref38_Check_L9eq]
      simp only [STD, idx_end])
    by_cases hf : firstE (secE l) l.length = 0
    · rw [if_pos hf] at k
      have k' : (loopT ref38_Check_L9S [.r l, .i 0]).run = _ := k
      simp only [STD, k', jIs_of k', hf, h, h0]
    · rw [if_neg hf] at k
      have k' : (loopT ref38_Check_L9S [.r l, .i 0]).run = _ := k
      simp only [STD, k', jIs_of k', h, h0, show ¬ ((1 : Nat) = 0) by decide]
theorem schk_congr {l m : R} (hn : l.length = m.length) (h0 : ∀ i : Nat, i < l.length → cI l i 0 = cI m i 0) (h1 : ∀ i : Nat, i < l.length → cR l i 1 = cR m i 1) : schk l = schk m := by
  unfold schk
  have hr : rlen l = rlen m := by unfold rlen; rw [hn]
  rw [hr, ← hn]
  rw [firstE_congr (f := secE m) fun i hi => by
    unfold secE
    rw [h0 i hi, h1 i hi, h0 (i - 1) (by omega)]]
def given (l : R) (x y : Int) : Int := if schk l = 0 then ptE x y else schk l
theorem p_runout_check (l : R) (x y : Int) : (runout_check_T [.r l, .i x, .i y]).run = some (0, [.i (given l x y)]) := by
  rw [runout_check_eq]; simp only [STD, p_runout_Check, p_runout_right]; unfold given
  have := ptE_cases x y
  by_cases h : schk l = 0 <;> rcases this with h2 | h2 <;> simp [h, h2]
theorem p_ref38_Given (l : R) (x y : Int) : (ref38_Given_T [.r l, .i x, .i y]).run = some (0, [.i (given l x y)]) := by
  rw [ref38_Given_eq]; simp only [STD, p_ref38_Check, p_ref07_Right]; unfold given
  have := ptE_cases x y
  by_cases h : schk l = 0 <;> rcases this with h2 | h2 <;> simp [h, h2]
/-! ### the sections as those of the reference -/
def ownR (l : R) : R := mapR (fun i => [.i (cI l i 0), .l (cR l i 1)]) l.length
theorem own_len (l : R) : (ownR l).length = l.length := mapR_len _ _
theorem own_cI {l : R} {i : Nat} (h : i < l.length) : cI (ownR l) i 0 = cI l i 0 := by unfold ownR; rw [cI_mapR _ h]; rfl
theorem own_cR {l : R} {i : Nat} (h : i < l.length) : cR (ownR l) i 1 = cR l i 1 := by unfold ownR; rw [cR_mapR _ h]; rfl
theorem schk_own (l : R) : schk (ownR l) = schk l := schk_congr (own_len l) (fun i hi => own_cI (by rwa [own_len] at hi)) (fun i hi => own_cR (by rwa [own_len] at hi))
theorem p_law38_own (l : R) (hl : (l.length : Int) ≤ 4398046511104) : (law38_own_T [.r l]).run = some (0, [.r (ownR l)]) := by
  rw [law38_own_eq]
  have k := loop_count (S := law38_own_L4S) (fun i => [.r l, .i (rlen l), .i (i : Int), .r (mapR (fun i => [.i (cI l i 0), .l (cR l i 1)]) i)]) (0, [.r (ownR l)]) l.length (by omega) (fun i hi => by
    rw [law38_own_L4eq]
    simp only [STD, idx_lt hi, idx_nn, and_self, wsucc hi (by omega)]
    rw [if_pos (mapR_room hi hl _), ← mapR_succ]) (by
    rw [law38_own_L4eq]
    simp only [STD, idx_end]; rfl)
  have k' : (loopT law38_own_L4S [.r l, .i (rlen l), .i 0, .r []]).run = _ := k
  simp only [STD, k']
def fewP (l : R) : Bool := decide (rlen l ≤ 8) || (decide (64 < rlen l) && decide (rlen l < 128))
theorem p_ref07_Few (l : R) : (ref07_Few_T [.r l]).run = some (0, [.b (fewP l)]) := by
  rw [ref07_Few_eq]; simp only [STD]; unfold fewP
  by_cases h : rlen l ≤ 8 <;> by_cases h2 : 64 < rlen l <;> simp [h, h2, ilt]
theorem p_ref38_Few (l : R) : ∃ b, (ref38_Few_T [.r l]).run = some (0, [.b b]) ∧ (b = true → l.length ≤ 64) := by
  rw [ref38_Few_eq]
  by_cases h64 : 64 < rlen l
  · refine ⟨false, ?_, fun h => by cases h⟩
    simp only [STD, h64]
    by_cases h5 : 5 < rlen l <;> by_cases h32 : rlen l ≤ 32 <;> simp [h5, h32]
  · have hl : l.length ≤ 64 := by unfold rlen at h64; omega
    have k := loop_scan (S := ref38_Few_L6S) (fun i => [.r l, .i (i : Int)]) (fun i => if fewP (cR l i 1) = true then none else some (1, [.b false])) (0, []) l.length (by omega) (fun i hi hf => by
      rw [ref38_Few_L6eq]
      have hw : fewP (cR l i 1) = true := by
        split at hf
        · assumption
        · cases hf
      simp only [STD, idx_lt hi, idx_nn, and_self, wsucc hi (by omega), p_ref07_Few, hw]) (fun i r hi hf => by
      rw [ref38_Few_L6eq]
      have hw : fewP (cR l i 1) = false ∧ r = (1, [.b false]) := by
        split at hf
        · cases hf
        · rename_i h; exact ⟨by simpa using h, by simpa using hf.symm⟩
      simp only [STD, idx_lt hi, idx_nn, and_self, p_ref07_Few, hw.1, hw.2]) (by
      rw [ref38_Few_L6eq]
      simp only [STD, idx_end])
    have k' : (loopT ref38_Few_L6S [.r l, .i 0]).run = _ := k
    have hr : ∀ (f : Nat → Option (Nat × List PV)), (∀ i, f i = none ∨ f i = some (1, [.b false])) → ∀ n i, scan f i n = none ∨ scan f i n = some (1, [.b false]) := by
      intro f hf n
      induction n with
      | zero => intro i; exact .inl rfl
      | succ n ih =>
        intro i
        simp only [scan]
        rcases hf i with h | h <;> rw [h]
        · exact ih (i + 1)
        · exact .inr rfl
    rcases hr (fun i => if fewP (cR l i 1) = true then none else some (1, [.b false])) (fun i => by cases fewP (cR l i 1) <;> simp) l.length 0 with h | h
    · rw [h] at k'
      have k2 : (loopT ref38_Few_L6S [.r l, .i 0]).run = some (0, []) := k'
      by_cases h5 : 5 < rlen l <;> by_cases h32 : rlen l ≤ 32 <;> simp only [STD, h64, h5, h32, k2, jIs_of k2] <;> exact ⟨_, rfl, fun _ => hl⟩
    · rw [h] at k'
      have k2 : (loopT ref38_Few_L6S [.r l, .i 0]).run = some (1, [.b false]) := k'
      by_cases h5 : 5 < rlen l <;> by_cases h32 : rlen l ≤ 32 <;> simp only [STD, h64, h5, h32, k2, jIs_of k2, show ¬ ((1 : Nat) = 0) by decide] <;> exact ⟨_, rfl, fun _ => hl⟩
end Go.Eng
