import Derived.Test.YtjebekbdjlooiaaPRef1
namespace Go.Eng
/-! ### sums and differences on paper -/
theorem p_ref01_wide (s : List UInt8) (n : Nat) (h0 : 0 < n) (hn : n ≤ 1000000000) (hl : s.length ≤ n) : (ref01_wide_T [.s s, .i (n : Int)]).run = some (0, [.s (List.replicate (n - s.length) 48 ++ s)]) := by
  rw [ref01_wide_eq]
  have k := loop_count (S := ref01_wide_L4S) (fun i => [.s s, .i (n : Int), .i (i : Int), .r (rI (List.replicate i 48 ++ List.replicate (n - i) 0))]) (0, [.s s, .i (n : Int), .r (rI (List.replicate n 48))]) n (by omega) (fun i hi => by
    rw [ref01_wide_L4eq]
    have h1 : (i : Int) < (n : Int) := by omega
    have h2 : (i : Int) < rlen (rI (List.replicate i 48 ++ List.replicate (n - i) 0)) := by rw [rI_len]; simp; omega
    have h3 : (List.replicate i (48 : Int) ++ List.replicate (n - i) 0).set (i : Int).toNat 48 = List.replicate (i + 1) 48 ++ List.replicate (n - (i + 1)) 0 := by
      rw [Int.toNat_natCast, List.set_append_right _ _ (by simp), List.length_replicate, Nat.sub_self]
      rw [show n - i = (n - (i + 1)) + 1 by omega, List.replicate_succ, List.set_cons_zero, List.replicate_succ']
      simp
    simp only [STD, h1, h2, idx_nn, and_self, wsucc hi (by omega), rI_set, h3]) (by
    rw [ref01_wide_L4eq]
    simp only [STD, Int.lt_irrefl, Nat.sub_self, List.replicate_zero, List.append_nil])
  have k' : (loopT ref01_wide_L4S [.s s, .i (n : Int), .i 0, .r (rI (List.replicate n 0))]).run = some (0, [.s s, .i (n : Int), .r (rI (List.replicate n 48))]) := by simpa using k
  have e1 : wsub .i64 (n : Int) (slen s) = ((n - s.length : Nat) : Int) := by
    rw [wsub_eq (by unfold slen; omega)]; unfold slen; omega
  have e2 : (0 : Int) ≤ (n : Int) := by omega
  have e3 : (n : Int) ≤ 140737488355328 := by omega
  have e4 : (0 : Int) < rlen (rI (List.replicate n 48)) := by rw [rI_len, List.length_replicate]; omega
  have e5 : ((n - s.length : Nat) : Int) ≤ rlen (rI (List.replicate n 48)) := by rw [rI_len, List.length_replicate]; omega
  have e6 : slen s ≤ isub (rlen (rI (List.replicate n 48))) ((n - s.length : Nat) : Int) := by rw [rI_len, List.length_replicate]; unfold isub slen; omega
  have e7 : rstr (rI (List.take ((n - s.length : Nat) : Int).toNat (List.replicate n 48) ++ s.map (fun c => (c.toNat : Int)) ++ List.drop (((n - s.length : Nat) : Int).toNat + s.length) (List.replicate n 48))) = List.replicate (n - s.length) 48 ++ s := by
    rw [Int.toNat_natCast, List.take_replicate, List.drop_replicate, Nat.min_eq_left (by omega), show n - (n - s.length + s.length) = 0 by omega, List.replicate_zero, List.append_nil]
    have : List.replicate (n - s.length) (48 : Int) = (List.replicate (n - s.length) (48 : UInt8)).map fun c => (c.toNat : Int) := by rw [List.map_replicate]; rfl
    rw [this, ← List.map_append, rI_str_nat]
  simp only [STD, rI_make, Int.toNat_natCast, e2, e3, and_self, k', e4, e5, e1, idx_nn, e6, rI_cpy]
  rw [Int.toNat_natCast] at e7
  rw [e7]
theorem p_ref01_bare {s : List UInt8} (hd : digs s) (hn : s ≠ []) (hl : s.length ≤ 1000000000) : (ref01_bare_T [.s s]).run = some (0, [.s (tN (val s))]) := by
  rw [ref01_bare_eq]
  obtain ⟨j, qs, h1, h2⟩ := loop_inv (S := ref01_bare_L2S) (fun k ps => ∃ t : List UInt8, ps = [.s t] ∧ t.length = k ∧ digs t ∧ t ≠ [] ∧ val t = val s) (fun j qs => j = 0 ∧ qs = [.s (tN (val s))]) (n := s.length) (by omega) (fun k ps hk ⟨t, hps, hlk, hdt, hnt, hv⟩ => by
    subst hps
    have hp : 0 < t.length := List.length_pos_iff.2 hnt
    have hs0 : (0 : Int) < slen t := by unfold slen; omega
    rw [ref01_bare_L2eq]
    by_cases h1 : 1 < t.length
    · have hs1 : (1 : Int) < slen t := by unfold slen; omega
      obtain ⟨c, u, rfl⟩ : ∃ c u, t = c :: u := by
        cases t with
        | nil => exact absurd rfl hnt
        | cons c u => exact ⟨c, u, rfl⟩
      have hsat : sat (c :: u) 0 = (c.toNat : Int) := by simp [sat]
      by_cases h48 : c = 48
      · left
        subst h48
        have hu : u ≠ [] := by intro h; subst h; simp at h1
        refine ⟨u.length, [.s u], by simp at hlk; omega, ?_, u, rfl, rfl, (digs_cons.1 hdt).2, hu, by rw [← hv, val_zero]⟩
        have hsub : ssub (48 :: u) 1 (slen (48 :: u)) = u := by simp [ssub, slen]
        have h48' : (((48 : UInt8).toNat : Nat) : Int) = 48 := rfl
        simp only [STD, hs1, hs0, hsat, h48', Int.le_refl, and_self, Int.le_of_lt hs1, Int.le_of_lt hs0, show (0 : Int) ≤ 1 by omega, hsub]
      · right
        have hne : ¬ ((c.toNat : Int) = 48) := fun h => h48 (UInt8.toNat_inj.1 (by show c.toNat = 48; omega))
        refine ⟨0, [.s (c :: u)], ?_, rfl, ?_⟩
        · simp only [STD, hs1, hs0, hsat, hne, Int.le_refl, and_self]
        · rw [← hv, ← tN_uniq hdt hnt (.inr (by simpa using h48))]
    · right
      have hs1 : ¬ (1 : Int) < slen t := by unfold slen; omega
      refine ⟨0, [.s t], ?_, rfl, ?_⟩
      · simp only [STD, hs1]
      · rw [← hv, ← tN_uniq hdt hnt (.inl (by omega))]) (ps := [.s s]) ⟨s, rfl, rfl, hd, hn, rfl⟩
  obtain ⟨rfl, rfl⟩ := h2
  simp only [STD, h1]
theorem dv_of {c : UInt8} (h : 48 ≤ c.toNat ∧ c.toNat ≤ 57) : (c.toNat : Int) = 48 + dv c := by unfold dv; omega
theorem p_column {x y : UInt8} (hx : 48 ≤ x.toNat ∧ x.toNat ≤ 57) (hy : 48 ≤ y.toNat ∧ y.toNat ≤ 57) (c : Nat) (hc : c ≤ 1) (add : Bool) :
    ∃ (d : UInt8) (c' : Nat), (48 ≤ d.toNat ∧ d.toNat ≤ 57) ∧ c' ≤ 1 ∧ (ref01_column_T [.i x.toNat, .i y.toNat, .i (c : Int), .b add]).run = some (0, [.i d.toNat, .i (c' : Int)]) ∧
      (if add then dv x + dv y + c = dv d + 10 * c' else dv x + 10 * c' = dv y + c + dv d) := by
  have ex : wconv .i64 (wsub .u8 (x.toNat : Int) 48) = (dv x : Int) := by rw [wsub8 (by omega), wconv_eq (by omega)]; unfold dv; omega
  have ey : wconv .i64 (wsub .u8 (y.toNat : Int) 48) = (dv y : Int) := by rw [wsub8 (by omega), wconv_eq (by omega)]; unfold dv; omega
  have lx := dv_lt hx
  have ly := dv_lt hy
  have mk : ∀ v : Nat, v < 10 → ((dch v).toNat : Int) = 48 + v := fun v hv => by rw [dch_toNat hv]; omega
  rw [ref01_column_eq]
  simp only [STD, ex, ey]
  cases add with
  | true =>
    simp only [STD]
    have e1 : wadd .i64 (wadd .i64 (dv x : Int) (dv y : Int)) (c : Int) = ((dv x + dv y + c : Nat) : Int) := by rw [wadd_eq (x := (dv x : Int)) (by omega), wadd_eq (by omega)]; omega
    rw [e1]
    by_cases h9 : 9 < dv x + dv y + c
    · have h9' : (9 : Int) < ((dv x + dv y + c : Nat) : Int) := by omega
      refine ⟨dch (dv x + dv y + c - 10), 1, by rw [dch_toNat (by omega)]; omega, by omega, ?_, by rw [dv_dch (by omega)]; omega⟩
      rw [if_pos h9', wadd_eq (by omega), wsub_eq (by omega), wconv8 (by omega), mk _ (by omega)]
      rw [show (48 : Int) + ((dv x + dv y + c : Nat) : Int) - 10 = 48 + ((dv x + dv y + c - 10 : Nat) : Int) by omega]; rfl
    · have h9' : ¬ (9 : Int) < ((dv x + dv y + c : Nat) : Int) := by omega
      have h0 : ¬ ((dv x + dv y + c : Nat) : Int) < 0 := by omega
      refine ⟨dch (dv x + dv y + c), 0, by rw [dch_toNat (by omega)]; omega, by omega, ?_, by rw [dv_dch (by omega)]; omega⟩
      rw [if_neg h9', if_neg h0, wadd_eq (by omega), wconv8 (by omega), mk _ (by omega)]; rfl
  | false =>
    simp only [STD]
    have e1 : wsub .i64 (wsub .i64 (dv x : Int) (dv y : Int)) (c : Int) = (dv x : Int) - dv y - c := by rw [wsub_eq (x := (dv x : Int)) (by omega), wsub_eq (by omega)]
    rw [e1]
    have h9' : ¬ (9 : Int) < (dv x : Int) - dv y - c := by omega
    rw [if_neg h9']
    by_cases h0 : (dv x : Int) - dv y - c < 0
    · refine ⟨dch (dv x + 10 - dv y - c), 1, by rw [dch_toNat (by omega)]; omega, by omega, ?_, ?_⟩
      · rw [if_pos h0, wadd_eq (x := 48) (by omega), wadd_eq (by omega), wconv8 (by omega), mk _ (by omega)]
        rw [show (48 : Int) + ((dv x : Int) - dv y - c) + 10 = 48 + ((dv x + 10 - dv y - c : Nat) : Int) by omega]; rfl
      · rw [dv_dch (by omega)]; omega
    · refine ⟨dch (dv x - dv y - c), 0, by rw [dch_toNat (by omega)]; omega, by omega, ?_, ?_⟩
      · rw [if_neg h0, wadd_eq (by omega), wconv8 (by omega), mk _ (by omega)]
        rw [show (48 : Int) + ((dv x : Int) - dv y - c) = 48 + ((dv x - dv y - c : Nat) : Int) by omega]; rfl
      · rw [dv_dch (by omega)]; omega
theorem drop_step {s : List UInt8} {k : Nat} (h : k < s.length) : s.drop k = s[k] :: s.drop (k + 1) := (List.drop_eq_getElem_cons h)
theorem val_drop {s : List UInt8} {k : Nat} (h : k < s.length) : val (s.drop k) = dv s[k] * 10 ^ (s.length - (k + 1)) + val (s.drop (k + 1)) := by
  rw [drop_step h, val_cons, List.length_drop]
/-- the columns from the right -/
theorem p_paper_loop {a b : List UInt8} {n : Nat} (ha : digs a) (hb : digs b) (hla : a.length = n) (hlb : b.length = n) (hn : n ≤ 100000001) (add : Bool) :
    ∃ (t : List UInt8) (c : Nat), (loopT ref01_paper_L7S [.s a, .s b, .b add, .i 0, .i ((n : Int) - 1), .r (rI (List.replicate n 0))]).run = some (0, [.r (rI (t.map fun c => (c.toNat : Int)))]) ∧ digs t ∧ t.length = n ∧
      (if add then val a + val b = val t + c * 10 ^ n else val a + c * 10 ^ n = val b + val t) := by
  obtain ⟨j, qs, h1, h2⟩ := loop_inv (S := ref01_paper_L7S) (fun k ps => ∃ (t : List UInt8) (c : Nat), ps = [.s a, .s b, .b add, .i (c : Int), .i ((k : Int) - 1), .r (rI (List.replicate k 0 ++ t.map fun c => (c.toNat : Int)))] ∧ c ≤ 1 ∧ digs t ∧ k + t.length = n ∧
      (if add then val (a.drop k) + val (b.drop k) = val t + c * 10 ^ (n - k) else val (a.drop k) + c * 10 ^ (n - k) = val (b.drop k) + val t))
    (fun j qs => j = 0 ∧ ∃ (t : List UInt8) (c : Nat), qs = [.r (rI (t.map fun c => (c.toNat : Int)))] ∧ digs t ∧ t.length = n ∧ (if add then val a + val b = val t + c * 10 ^ n else val a + c * 10 ^ n = val b + val t)) (n := n) (by omega) (fun k ps hk ⟨t, c, hps, hc, hdt, hlt, hrel⟩ => by
    subst hps
    rw [ref01_paper_L7eq]
    cases k with
    | zero =>
      right
      have : ¬ (0 : Int) ≤ ((0 : Nat) : Int) - 1 := by omega
      refine ⟨0, [.r (rI (t.map fun c => (c.toNat : Int)))], ?_, rfl, t, c, rfl, hdt, by omega, by simpa using hrel⟩
      simp only [STD, this, List.replicate_zero, List.nil_append]
    | succ k =>
      left
      have e0 : ((k + 1 : Nat) : Int) - 1 = (k : Int) := by omega
      rw [e0]
      have hka : k < a.length := by omega
      have hkb : k < b.length := by omega
      obtain ⟨d, c', hd, hc', hrun, hcol⟩ := p_column (digs_get ha hka) (digs_get hb hkb) c hc add
      have h3 : (k : Int) < slen a := by unfold slen; omega
      have h4 : (k : Int) < slen b := by unfold slen; omega
      have h5 : (k : Int) < rlen (rI (List.replicate (k + 1) 0 ++ t.map fun c => (c.toNat : Int))) := by rw [rI_len]; simp; omega
      have h6 : (List.replicate (k + 1) (0 : Int) ++ t.map fun c => (c.toNat : Int)).set (k : Int).toNat (d.toNat : Int) = List.replicate k 0 ++ (d :: t).map fun c => (c.toNat : Int) := by
        rw [Int.toNat_natCast, List.replicate_succ', List.append_assoc, List.set_append_right _ _ (by simp), List.length_replicate, Nat.sub_self]; rfl
      have h7 : wsub .i64 (k : Int) 1 = (k : Int) - 1 := wsub_eq (by omega)
      refine ⟨k, [.s a, .s b, .b add, .i (c' : Int), .i ((k : Int) - 1), .r (rI (List.replicate k 0 ++ (d :: t).map fun c => (c.toNat : Int)))], by omega, ?_, d :: t, c', rfl, hc', digs_cons.2 ⟨hd, hdt⟩, by simp; omega, ?_⟩
      · simp only [STD, idx_nn, h3, h4, h5, and_self, sat_nat hka, sat_nat hkb, hrun, rI_set, h6, h7]
      · rw [val_drop hka, val_drop hkb, val_cons, hla, hlb, show t.length = n - (k + 1) by omega, show n - k = (n - (k + 1)) + 1 by omega, Nat.pow_succ]
        generalize 10 ^ (n - (k + 1)) = p at *
        cases add with
        | true =>
          simp only [↓reduceIte] at hrel hcol ⊢
          have := congrArg (· * p) hcol
          simp only [Nat.add_mul] at this
          grind
        | false =>
          simp only [Bool.false_eq_true, ↓reduceIte] at hrel hcol ⊢
          have := congrArg (· * p) hcol
          simp only [Nat.add_mul] at this
          grind) (ps := [.s a, .s b, .b add, .i 0, .i ((n : Int) - 1), .r (rI (List.replicate n 0))]) ⟨[], 0, by simp, by omega, digs_nil, by simp, by
        rw [List.drop_eq_nil_of_le (by omega), List.drop_eq_nil_of_le (by omega)]; cases add <;> simp [val_nil]⟩
  obtain ⟨rfl, t, c, rfl, h3, h4, h5⟩ := h2
  exact ⟨t, c, h1, h3, h4, h5⟩
theorem paper_val {m n t c p : Nat} {add : Bool} (hm : m < p) (hn : n < p) (ht : t < p * 10) (h4 : if add then m + n = t + c * (p * 10) else m + c * (p * 10) = n + t) (hle : add = false → n ≤ m) : t = if add then m + n else m - n := by
  have hc0 : c = 0 := by
    rcases Nat.eq_zero_or_pos c with h | h
    · exact h
    · exfalso
      have h5 : 1 * (p * 10) ≤ c * (p * 10) := Nat.mul_le_mul_right (p * 10) h
      cases add with
      | true => simp only [↓reduceIte] at h4; omega
      | false => simp only [Bool.false_eq_true, ↓reduceIte] at h4; have := hle rfl; omega
  subst hc0
  cases add with
  | true => simp only [↓reduceIte] at h4 ⊢; omega
  | false => simp only [Bool.false_eq_true, ↓reduceIte] at h4 ⊢; omega
theorem imax_nat (a b : Nat) : imax (a : Int) (b : Int) = ((max a b : Nat) : Int) := by unfold imax; split <;> omega
/-- sum, or difference of numbers of which the second one is not greater -/
theorem p_ref01_paper (m n : Nat) (add : Bool) (hm : (tN m).length ≤ 100000000) (hn : (tN n).length ≤ 100000000) (hle : add = false → n ≤ m) :
    (ref01_paper_T [.s (tN m), .s (tN n), .b add]).run = some (0, [.s (tN (if add then m + n else m - n))]) := by
  rw [ref01_paper_eq]
  obtain ⟨N, hN⟩ : ∃ N, N = max (tN m).length (tN n).length + 1 := ⟨_, rfl⟩
  have l1 : (tN m).length ≤ N - 1 := by omega
  have l2 : (tN n).length ≤ N - 1 := by omega
  have l3 : N = N - 1 + 1 := by omega
  have p1 : 10 ^ (tN m).length ≤ 10 ^ (N - 1) := Nat.pow_le_pow_right (Nat.succ_pos 9) l1
  have p2 : 10 ^ (tN n).length ≤ 10 ^ (N - 1) := Nat.pow_le_pow_right (Nat.succ_pos 9) l2
  have p3 : 10 ^ N = 10 ^ (N - 1) * 10 := (congrArg (10 ^ ·) l3).trans (Nat.pow_succ (n := 10) (m := N - 1))
  have e0 : wadd .i64 (imax (slen (tN m)) (slen (tN n))) 1 = (N : Int) := by
    unfold slen; rw [imax_nat, wadd_eq (by omega)]; omega
  have e1 : wsub .i64 (N : Int) 1 = (N : Int) - 1 := wsub_eq (by omega)
  have e2 : (0 : Int) ≤ (N : Int) ∧ (N : Int) ≤ 140737488355328 := by omega
  have wa := p_ref01_wide (tN m) N (by omega) (by omega) (by omega)
  have wb := p_ref01_wide (tN n) N (by omega) (by omega) (by omega)
  have hda : digs (List.replicate (N - (tN m).length) 48 ++ tN m) := digs_app.2 ⟨digs_zeros _, digs_tN _⟩
  have hdb : digs (List.replicate (N - (tN n).length) 48 ++ tN n) := digs_app.2 ⟨digs_zeros _, digs_tN _⟩
  obtain ⟨t, c, h1, h2, h3, h4⟩ := p_paper_loop (n := N) hda hdb (by simp; omega) (by simp; omega) (by omega) add
  rw [val_zeros, val_zeros, val_tN, val_tN] at h4
  have ht : t ≠ [] := by intro h; subst h; simp at h3; omega
  have hb := p_ref01_bare h2 ht (by omega)
  have e3 : rmake (N : Int) [.i 0] = rI (List.replicate N 0) := by rw [rI_make]; rfl
  have hvm := val_lt (digs_tN m)
  have hvn := val_lt (digs_tN n)
  have hvt := val_lt h2
  rw [val_tN] at hvm hvn
  rw [h3] at hvt
  rw [p3] at h4 hvt
  have q1 := Nat.lt_of_lt_of_le hvm p1
  have q2 := Nat.lt_of_lt_of_le hvn p2
  clear hvm hvn p1 p2 p3
  have hval : val t = if add then m + n else m - n := paper_val q1 q2 hvt h4 hle
  rw [hval] at hb
  simp only [STD, e0, wa, wb, e1, e2, and_self, e3, h1, rI_str_nat, hb]
theorem len_add (m n : Nat) : (tN (m + n)).length ≤ max (tN m).length (tN n).length + 1 := by
  have h1 := val_lt (digs_tN m)
  have h2 := val_lt (digs_tN n)
  rw [val_tN] at h1 h2
  have p1 : 10 ^ (tN m).length ≤ 10 ^ (max (tN m).length (tN n).length) := Nat.pow_le_pow_right (by omega) (by omega)
  have p2 : 10 ^ (tN n).length ≤ 10 ^ (max (tN m).length (tN n).length) := Nat.pow_le_pow_right (by omega) (by omega)
  exact len_tN_le _ _ (by rw [Nat.pow_succ]; omega)
theorem len_mul (m n : Nat) : (tN (m * n)).length ≤ (tN m).length + (tN n).length := by
  have h1 := val_lt (digs_tN m)
  have h2 := val_lt (digs_tN n)
  rw [val_tN] at h1 h2
  have h3 := tN_pos m
  have h4 := tN_pos n
  have : m * n < 10 ^ ((tN m).length + (tN n).length) := by
    rw [Nat.pow_add]
    exact Nat.mul_lt_mul'' h1 h2
  have := len_tN_le ((tN m).length + (tN n).length - 1) (m * n) (by rwa [show (tN m).length + (tN n).length - 1 + 1 = (tN m).length + (tN n).length by omega])
  omega
/-- digits of a number -/
def nl (m : Int) : Nat := (tN m.natAbs).length
theorem nl_pos (m : Int) : 0 < nl m := tN_pos _
theorem nl_neg (m : Int) : nl (-m) = nl m := by unfold nl; rw [Int.natAbs_neg]
theorem nl_add (m n : Int) : nl (m + n) ≤ max (nl m) (nl n) + 1 := by
  unfold nl
  exact Nat.le_trans (len_mono (Int.natAbs_add_le m n)) (len_add _ _)
theorem nl_mul (m n : Int) : nl (m * n) ≤ nl m + nl n := by
  unfold nl; rw [Int.natAbs_mul]; exact len_mul _ _
theorem nl_lt {m : Int} {k : Nat} (h : nl m ≤ k) : m.natAbs < 10 ^ k := len_tN_lt h
theorem p_ref01_Plus (m n : Int) (hm : nl m ≤ 100000000 - 1) (hn : nl n ≤ 100000000 - 1) : (ref01_Plus_T [.s (tI m), .s (tI n)]).run = some (0, [.s (tI (m + n))]) := by
  rw [ref01_Plus_eq]
  have hm' : (tN m.natAbs).length ≤ 100000000 - 1 := hm
  have hn' : (tN n.natAbs).length ≤ 100000000 - 1 := hn
  have lt := nl_add m n
  by_cases hb : (tN m.natAbs).length ≤ 18 ∧ (tN n.natAbs).length ≤ 18
  · have b1 : m.natAbs < 1000000000000000000 := Nat.lt_of_lt_of_le (len_tN_lt hb.1) (by decide)
    have b2 : n.natAbs < 1000000000000000000 := Nat.lt_of_lt_of_le (len_tN_lt hb.2) (by decide)
    have e1 : wadd .i64 m n = m + n := wadd_eq (by omega)
    have e2 := p_ref01_Of (m + n) (by omega) (by omega)
    clear b1 b2
    have hbr := p_ref01_brief m n
    rw [if_pos hb] at hbr
    simp only [STD, hbr, e1, e2]
  · have hbr := p_ref01_brief m n
    rw [if_neg hb] at hbr
    have hP := p_ref01_paper m.natAbs n.natAbs true (by omega) (by omega) (fun h => by cases h)
    simp only [↓reduceIte] at hP
    simp only [STD, hbr, p_ref01_size, p_ref01_Below, p_ref01_less, decide_eq_decide, hP]
    have la := len_add m.natAbs n.natAbs
    by_cases hs : (m < 0) = (n < 0)
    · have hs' : (m < 0 ↔ n < 0) := by rw [hs]
      rw [if_pos hs']
      simp only [p_ref01_signed _ _ (show (tN (m.natAbs + n.natAbs)).length ≤ 100000000 by omega), STD]
      have e : (if m < 0 then -((m.natAbs + n.natAbs : Nat) : Int) else ((m.natAbs + n.natAbs : Nat) : Int)) = m + n := by
        by_cases h : m < 0
        · rw [if_pos h]; have := hs'.1 h; omega
        · rw [if_neg h]; have : ¬ n < 0 := fun q => h (hs'.2 q); omega
      rw [e]
    · have hs' : ¬ (m < 0 ↔ n < 0) := fun h => hs (propext h)
      rw [if_neg hs']
      by_cases hlt : m.natAbs < n.natAbs
      · have hP2 := p_ref01_paper n.natAbs m.natAbs false (by omega) (by omega) (fun _ => by omega)
        simp only [Bool.false_eq_true, ↓reduceIte] at hP2
        have ls : (tN (n.natAbs - m.natAbs)).length ≤ 100000000 := Nat.le_trans (len_mono (Nat.sub_le _ _)) (by omega)
        simp only [STD, hlt, hP2, p_ref01_signed _ _ ls]
        have e : (if n < 0 then -((n.natAbs - m.natAbs : Nat) : Int) else ((n.natAbs - m.natAbs : Nat) : Int)) = m + n := by
          by_cases h : n < 0
          · rw [if_pos h]; have : ¬ m < 0 := fun q => hs' ⟨fun _ => h, fun _ => q⟩; omega
          · rw [if_neg h]; have : m < 0 := by
              rcases Decidable.em (m < 0) with q | q
              · exact q
              · exact absurd ⟨fun x => absurd x q, fun x => absurd x h⟩ hs'
            omega
        rw [e]
      · have hP2 := p_ref01_paper m.natAbs n.natAbs false (by omega) (by omega) (fun _ => by omega)
        simp only [Bool.false_eq_true, ↓reduceIte] at hP2
        have ls : (tN (m.natAbs - n.natAbs)).length ≤ 100000000 := Nat.le_trans (len_mono (Nat.sub_le _ _)) (by omega)
        simp only [STD, hlt, hP2, p_ref01_signed _ _ ls]
        have e : (if m < 0 then -((m.natAbs - n.natAbs : Nat) : Int) else ((m.natAbs - n.natAbs : Nat) : Int)) = m + n := by
          by_cases h : m < 0
          · rw [if_pos h]; have : ¬ n < 0 := fun q => hs' ⟨fun _ => q, fun _ => h⟩; omega
          · rw [if_neg h]; have : n < 0 := by
              rcases Decidable.em (n < 0) with q | q
              · exact q
              · exact absurd ⟨fun x => absurd x h, fun x => absurd x q⟩ hs'
            omega
        rw [e]
theorem p_ref01_Minus (m n : Int) (hm : nl m ≤ 100000000 - 1) (hn : nl n ≤ 100000000 - 1) : (ref01_Minus_T [.s (tI m), .s (tI n)]).run = some (0, [.s (tI (m - n))]) := by
  rw [ref01_Minus_eq]
  have ht := p_ref01_Turned n (by have : (tN n.natAbs).length ≤ 100000000 - 1 := hn; omega)
  have hp := p_ref01_Plus m (-n) hm (by rw [nl_neg]; exact hn)
  rw [← Int.sub_eq_add_neg] at hp
  simp only [STD, ht, hp]
def sgn (n : Int) : Int := if n < 0 then -1 else if n = 0 then 0 else 1
theorem p_ref01_Order (m n : Int) (hm : nl m ≤ 100000000 - 1) (hn : nl n ≤ 100000000 - 1) : (ref01_Order_T [.s (tI m), .s (tI n)]).run = some (0, [.i (sgn (m - n))]) := by
  rw [ref01_Order_eq]
  have h0 : (tI (m - n) = [48]) = (m - n = 0) := by
    have : tI 0 = [48] := rfl
    rw [← this]; exact propext ⟨fun h => tI_inj h, fun h => by rw [h]⟩
  simp only [STD, p_ref01_Minus m n hm hn, seq_iff, h0, p_ref01_Below]
  unfold sgn
  by_cases h1 : m - n = 0
  · rw [if_pos h1, if_neg (by omega), if_pos h1]
  · rw [if_neg h1]
    by_cases h2 : m - n < 0
    · rw [if_pos h2, if_pos h2]
    · rw [if_neg h2, if_neg h2, if_neg h1]
end Go.Eng
