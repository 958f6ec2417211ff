import Derived.Test.YtjebekbdjlooiaaPRef2
namespace Go.Eng
/-! ### products: columns -/
def wv (l : List Int) : Int := l.foldl (fun a x => 10 * a + x) 0
theorem foldl_wv : ∀ (t : List Int) (a : Int), t.foldl (fun a x => 10 * a + x) a = a * 10 ^ t.length + wv t
  | [], a => by simp [wv]
  | c :: t, a => by
    have h1 := foldl_wv t (10 * a + c)
    have h2 := foldl_wv t (10 * 0 + c)
    have h3 : wv (c :: t) = t.foldl (fun a x => 10 * a + x) (10 * 0 + c) := rfl
    rw [h3, h2, List.foldl_cons, h1, List.length_cons, Int.pow_succ]
    grind
theorem wv_cons (c : Int) (t : List Int) : wv (c :: t) = c * 10 ^ t.length + wv t := by
  have h3 : wv (c :: t) = t.foldl (fun a x => 10 * a + x) (10 * 0 + c) := rfl
  rw [h3, foldl_wv]; grind
theorem wv_nil : wv [] = 0 := rfl
theorem wv_zeros (n : Nat) : wv (List.replicate n 0) = 0 := by
  induction n with
  | zero => rfl
  | succ n ih => rw [List.replicate_succ, wv_cons, ih]; simp
theorem wv_set : ∀ (l : List Int) (j : Nat) (hj : j < l.length) (y : Int), wv (l.set j y) = wv l + (y - l[j]) * 10 ^ (l.length - (j + 1))
  | [], j, hj, y => by simp at hj
  | c :: t, 0, hj, y => by
    rw [List.set_cons_zero, wv_cons, wv_cons]
    simp only [List.getElem_cons_zero, List.length_cons, Nat.add_sub_cancel, Nat.zero_add]
    grind
  | c :: t, j + 1, hj, y => by
    have hj' : j < t.length := by simpa using hj
    rw [List.set_cons_succ, wv_cons, wv_cons, wv_set t j hj' y, List.length_set]
    simp only [List.getElem_cons_succ, List.length_cons]
    rw [show t.length + 1 - (j + 1 + 1) = t.length - (j + 1) by omega]
    grind
theorem wv_drop {l : List Int} {k : Nat} (h : k < l.length) : wv (l.drop k) = l[k] * 10 ^ (l.length - (k + 1)) + wv (l.drop (k + 1)) := by
  rw [List.drop_eq_getElem_cons h, wv_cons, List.length_drop]
theorem getD_get {l : List Int} {j : Nat} (h : j < l.length) : l.getD j 0 = l[j] := by simp [List.getD_eq_getElem?_getD, h]
theorem pow_split {n i : Nat} (h : i < n) : (10 : Int) ^ (n - i) = 10 ^ (n - (i + 1)) * 10 := by
  rw [← Int.pow_succ]; congr 1; omega
theorem outer_alg {V A Q B : Int} : V * (Q * 10) * B + A * B * Q = (10 * V + A) * Q * B := by grind
/-- one step of the columns, as numbers -/
theorem col_alg {P Q A V x y : Int} : A * (10 * V + y) * P * Q = A * V * (P * 10) * Q + A * y * (P * Q) := by grind
theorem mem_set_bound {l : List Int} {j : Nat} {y B : Int} (h : ∀ x, x ∈ l → 0 ≤ x ∧ x ≤ B) (hy : 0 ≤ y ∧ y ≤ B) : ∀ x, x ∈ l.set j y → 0 ≤ x ∧ x ≤ B := by
  intro x hx
  rcases List.mem_or_eq_of_mem_set hx with h1 | h1
  · exact h x h1
  · rw [h1]; exact hy
theorem prod_inner {a b : List UInt8} (ha : digs a) (hb : digs b) {i : Nat} (hi : i < a.length) (hla : a.length ≤ 1000000) (hlb : b.length ≤ 1000000) {cols : List Int} (hc : cols.length = a.length + b.length) {C : Nat} (hC : C ≤ 1000000000000)
    (hB : ∀ x, x ∈ cols → 0 ≤ x ∧ x ≤ 81 * (C : Int)) :
    ∃ cols' : List Int, (loopT ref01_product_L9S [.s a, .s b, .i (i : Int), .i 0, .r (rI cols)]).run = some (0, [.s a, .s b, .i (i : Int), .r (rI cols')]) ∧ cols'.length = a.length + b.length ∧
      (∀ x, x ∈ cols' → 0 ≤ x ∧ x ≤ 81 * ((C + b.length : Nat) : Int)) ∧ wv cols' = wv cols + (dv a[i] : Int) * (val b : Int) * 10 ^ (a.length - (i + 1)) := by
  obtain ⟨j, qs, h1, h2⟩ := loop_inv (S := ref01_product_L9S) (fun K ps => ∃ (k : Nat) (cs : List Int), K + k = b.length ∧ ps = [.s a, .s b, .i (i : Int), .i (k : Int), .r (rI cs)] ∧ cs.length = a.length + b.length ∧
      (∀ x, x ∈ cs → 0 ≤ x ∧ x ≤ 81 * ((C + k : Nat) : Int)) ∧ wv cs = wv cols + (dv a[i] : Int) * (val (b.take k) : Int) * 10 ^ (b.length - k) * 10 ^ (a.length - (i + 1)))
    (fun j qs => j = 0 ∧ ∃ cs : List Int, qs = [.s a, .s b, .i (i : Int), .r (rI cs)] ∧ cs.length = a.length + b.length ∧
      (∀ x, x ∈ cs → 0 ≤ x ∧ x ≤ 81 * ((C + b.length : Nat) : Int)) ∧ wv cs = wv cols + (dv a[i] : Int) * (val b : Int) * 10 ^ (a.length - (i + 1))) (n := b.length) (by omega) (fun K ps hK ⟨k, cs, hkK, hps, hlen, hbd, hw⟩ => by
    subst hps
    rw [ref01_product_L9eq]
    cases K with
    | zero =>
      right
      obtain rfl : k = b.length := by omega
      have : ¬ (b.length : Int) < slen b := by unfold slen; omega
      refine ⟨0, [.s a, .s b, .i (i : Int), .r (rI cs)], ?_, rfl, cs, rfl, hlen, hbd, ?_⟩
      · simp only [STD, this]
      · rw [hw, List.take_length, Nat.sub_self]; grind
    | succ K =>
      left
      have hk : k < b.length := by omega
      have g1 : (k : Int) < slen b := by unfold slen; omega
      have g2 : (i : Int) < slen a := by unfold slen; omega
      have e1 : wadd .i64 (wadd .i64 (i : Int) (k : Int)) 1 = ((i + k + 1 : Nat) : Int) := by
        rw [wadd_eq (x := (i : Int)) (by omega), wadd_eq (by omega)]; omega
      have hj : i + k + 1 < cs.length := by omega
      have g3 : ((i + k + 1 : Nat) : Int) < rlen (rI cs) := by rw [rI_len]; omega
      obtain ⟨da, la⟩ := sat_dig ha hi
      obtain ⟨db, lb⟩ := sat_dig hb hk
      have hx := hbd _ (List.getElem_mem hj)
      have hmul : dv a[i] * dv b[k] ≤ 9 * 9 := Nat.mul_le_mul (by omega) (by omega)
      have e2 : wmul .i64 (dv a[i] : Int) (dv b[k] : Int) = ((dv a[i] * dv b[k] : Nat) : Int) := by
        rw [wmul_eq (by rw [← Int.natCast_mul]; omega)]; simp
      have e3 : wadd .i64 cs[i + k + 1] ((dv a[i] * dv b[k] : Nat) : Int) = cs[i + k + 1] + ((dv a[i] * dv b[k] : Nat) : Int) := wadd_eq (by omega)
      have e4 := wsucc hk (by omega)
      refine ⟨K, [.s a, .s b, .i (i : Int), .i ((k + 1 : Nat) : Int), .r (rI (cs.set (i + k + 1) (cs[i + k + 1] + ((dv a[i] * dv b[k] : Nat) : Int))))], by omega, ?_, k + 1, _, by omega, rfl, by simpa using hlen, ?_, ?_⟩
      · simp only [STD, g1, g2, idx_nn, and_self, e1, g3, da, db, e2, rI_cI, Int.toNat_natCast, getD_get hj, e3, e4, rI_set]
      · refine mem_set_bound (fun x hx => ?_) ?_
        · have := hbd x hx; omega
        · omega
      · rw [wv_set _ _ hj, hw, val_take_succ hk, hlen]
        have p1 := pow_split hk
        have p2 : (10 : Int) ^ (a.length + b.length - (i + k + 1 + 1)) = 10 ^ (b.length - (k + 1)) * 10 ^ (a.length - (i + 1)) := by
          rw [← Int.pow_add]; congr 1; omega
        rw [p1, p2]
        generalize (10 : Int) ^ (b.length - (k + 1)) = P
        generalize (10 : Int) ^ (a.length - (i + 1)) = Q
        simp only [Int.natCast_add, Int.natCast_mul]
        generalize (dv a[i] : Int) = A
        generalize (dv b[k] : Int) = y
        generalize (val (b.take k) : Int) = V
        generalize cs[i + k + 1] = c
        have := col_alg (P := P) (Q := Q) (A := A) (V := V) (x := 0) (y := y)
        grind) (ps := [.s a, .s b, .i (i : Int), .i 0, .r (rI cols)]) ⟨0, cols, by omega, rfl, hc, by simpa using hB, by simp [val_nil]⟩
  obtain ⟨rfl, cs, rfl, h3, h4, h5⟩ := h2
  exact ⟨cs, h1, h3, h4, h5⟩
theorem prod_outer {a b : List UInt8} (ha : digs a) (hb : digs b) (hla : a.length ≤ 1000000) (hlb : b.length ≤ 1000000) :
    ∃ cols : List Int, (loopT ref01_product_L4S [.s a, .s b, .i 0, .r (rI (List.replicate (a.length + b.length) 0))]).run = some (0, [.r (rI cols)]) ∧ cols.length = a.length + b.length ∧
      (∀ x, x ∈ cols → 0 ≤ x ∧ x ≤ 81000000000000) ∧ wv cols = (val a : Int) * (val b : Int) := by
  have hsq : ∀ i, i ≤ a.length → i * b.length ≤ 1000000000000 := fun i hi => by
    have := Nat.mul_le_mul (show i ≤ 1000000 by omega) hlb; omega
  obtain ⟨j, qs, h1, h2⟩ := loop_inv (S := ref01_product_L4S) (fun K ps => ∃ (i : Nat) (cs : List Int), K + i = a.length ∧ ps = [.s a, .s b, .i (i : Int), .r (rI cs)] ∧ cs.length = a.length + b.length ∧
      (∀ x, x ∈ cs → 0 ≤ x ∧ x ≤ 81 * ((i * b.length : Nat) : Int)) ∧ wv cs = (val (a.take i) : Int) * 10 ^ (a.length - i) * (val b : Int))
    (fun j qs => j = 0 ∧ ∃ cs : List Int, qs = [.r (rI cs)] ∧ cs.length = a.length + b.length ∧ (∀ x, x ∈ cs → 0 ≤ x ∧ x ≤ 81000000000000) ∧ wv cs = (val a : Int) * (val b : Int)) (n := a.length) (by omega) (fun K ps hK ⟨i, cs, hiK, hps, hlen, hbd, hw⟩ => by
    subst hps
    rw [ref01_product_L4eq]
    have hs := hsq i (by omega)
    cases K with
    | zero =>
      right
      obtain rfl : i = a.length := by omega
      have : ¬ (a.length : Int) < slen a := by unfold slen; omega
      refine ⟨0, [.r (rI cs)], ?_, rfl, cs, rfl, hlen, fun x hx => ?_, ?_⟩
      · simp only [STD, this]
      · have := hbd x hx; omega
      · rw [hw, List.take_length, Nat.sub_self]; grind
    | succ K =>
      left
      have hi : i < a.length := by omega
      have g1 : (i : Int) < slen a := by unfold slen; omega
      obtain ⟨cs', q1, q2, q3, q4⟩ := prod_inner ha hb hi hla hlb hlen (C := i * b.length) hs hbd
      have e4 := wsucc hi (by omega)
      refine ⟨K, [.s a, .s b, .i ((i + 1 : Nat) : Int), .r (rI cs')], by omega, ?_, i + 1, cs', by omega, rfl, q2, ?_, ?_⟩
      · simp only [STD, g1, q1, e4]
      · rw [Nat.add_mul, Nat.one_mul]; exact q3
      · rw [q4, hw, val_take_succ hi]
        rw [pow_split hi, Int.natCast_add, Int.natCast_mul]
        exact outer_alg) (ps := [.s a, .s b, .i 0, .r (rI (List.replicate (a.length + b.length) 0))]) ⟨0, List.replicate (a.length + b.length) 0, by omega, rfl, by simp, fun x hx => by rw [(List.mem_replicate.1 hx).2]; omega, by rw [wv_zeros]; simp [val_nil]⟩
  obtain ⟨rfl, cs, rfl, h3, h4, h5⟩ := h2
  exact ⟨cs, h1, h3, h4, h5⟩
theorem prod_carry {cols : List Int} {N : Nat} (hl : cols.length = N) (hN : N ≤ 2000000) (hB : ∀ x, x ∈ cols → 0 ≤ x ∧ x ≤ 81000000000000) :
    ∃ (t : List UInt8) (c : Nat), (loopT ref01_product_L17S [.i 0, .i ((N : Int) - 1), .r (rI cols), .r (rI (List.replicate N 0))]).run = some (0, [.r (rI (t.map fun c => (c.toNat : Int)))]) ∧ digs t ∧ t.length = N ∧ wv cols = (val t : Int) + (c : Int) * 10 ^ N := by
  obtain ⟨j, qs, h1, h2⟩ := loop_inv (S := ref01_product_L17S) (fun K ps => ∃ (t : List UInt8) (c : Nat), ps = [.i (c : Int), .i ((K : Int) - 1), .r (rI cols), .r (rI (List.replicate K 0 ++ t.map fun c => (c.toNat : Int)))] ∧ c ≤ 81000000000000 ∧ digs t ∧ K + t.length = N ∧
      wv (cols.drop K) = (val t : Int) + (c : Int) * 10 ^ (N - K))
    (fun j qs => j = 0 ∧ ∃ (t : List UInt8) (c : Nat), qs = [.r (rI (t.map fun c => (c.toNat : Int)))] ∧ digs t ∧ t.length = N ∧ wv cols = (val t : Int) + (c : Int) * 10 ^ N) (n := N) (by omega) (fun K ps hK ⟨t, c, hps, hc, hdt, hlt, hrel⟩ => by
    subst hps
    rw [ref01_product_L17eq]
    cases K with
    | zero =>
      right
      have : ¬ (0 : Int) ≤ ((0 : Nat) : Int) - 1 := by omega
      refine ⟨0, [.r (rI (t.map fun c => (c.toNat : Int)))], ?_, rfl, t, c, rfl, hdt, by omega, by simpa using hrel⟩
      simp only [STD, this, List.replicate_zero, List.nil_append]
    | succ K =>
      left
      have e0 : ((K + 1 : Nat) : Int) - 1 = (K : Int) := by omega
      rw [e0]
      have hk : K < cols.length := by omega
      obtain ⟨x, hx⟩ : ∃ x : Nat, cols[K] = (x : Int) ∧ x ≤ 81000000000000 := by
        have := hB _ (List.getElem_mem hk)
        exact ⟨cols[K].toNat, by omega, by omega⟩
      have e1 : wadd .i64 (c : Int) (x : Int) = ((c + x : Nat) : Int) := by rw [wadd_eq (by omega)]; omega
      have e2 : wquo .i64 ((c + x : Nat) : Int) 10 = (((c + x) / 10 : Nat) : Int) := wquo_nat (b := 10) (by omega)
      have e3 : wrem ((c + x : Nat) : Int) 10 = (((c + x) % 10 : Nat) : Int) := wrem_nat _ 10
      have e4 : wconv .u8 (wadd .i64 48 (((c + x) % 10 : Nat) : Int)) = ((dch ((c + x) % 10)).toNat : Int) := by
        rw [wadd_eq (by omega), wconv8 (by omega), dch_toNat (by omega)]; omega
      have h3 : (K : Int) < rlen (rI cols) := by rw [rI_len]; omega
      have h5 : (K : Int) < rlen (rI (List.replicate (K + 1) 0 ++ t.map fun c => (c.toNat : Int))) := by rw [rI_len]; simp; omega
      have h6 : (List.replicate (K + 1) (0 : Int) ++ t.map fun c => (c.toNat : Int)).set K ((dch ((c + x) % 10)).toNat : Int) = List.replicate K 0 ++ (dch ((c + x) % 10) :: t).map fun c => (c.toNat : Int) := by
        rw [List.replicate_succ', List.append_assoc, List.set_append_right _ _ (by simp), List.length_replicate, Nat.sub_self]; rfl
      have h7 : wsub .i64 (K : Int) 1 = (K : Int) - 1 := wsub_eq (by omega)
      refine ⟨K, [.i (((c + x) / 10 : Nat) : Int), .i ((K : Int) - 1), .r (rI cols), .r (rI (List.replicate K 0 ++ (dch ((c + x) % 10) :: t).map fun c => (c.toNat : Int)))], by omega, ?_, _, _, rfl, by omega, digs_cons.2 ⟨by rw [dch_toNat (by omega)]; omega, hdt⟩, by simp; omega, ?_⟩
      · simp only [STD, idx_nn, h3, h5, and_self, rI_cI, Int.toNat_natCast, getD_get hk, hx.1, e1, e2, e3, e4, rI_set, h6, h7]
      · rw [wv_drop hk, hrel, val_cons, hx.1, hl, dv_dch (by omega), show t.length = N - (K + 1) by omega]
        rw [pow_split (show K < N by omega)]
        have e : ((c + x : Nat) : Int) = 10 * (((c + x) / 10 : Nat) : Int) + (((c + x) % 10 : Nat) : Int) := by omega
        simp only [Int.natCast_add, Int.natCast_mul, Int.natCast_pow] at e ⊢
        generalize hP : (10 : Int) ^ (N - (K + 1)) = P at *
        generalize (((c + x) / 10 : Nat) : Int) = q at *
        generalize (((c + x) % 10 : Nat) : Int) = r at *
        have : (c : Int) = 10 * q + r - x := by omega
        rw [this]; grind) (ps := [.i 0, .i ((N : Int) - 1), .r (rI cols), .r (rI (List.replicate N 0))]) ⟨[], 0, by simp, by omega, digs_nil, by simp, by
        rw [List.drop_eq_nil_of_le (by omega)]; simp [val_nil, wv_nil]⟩
  obtain ⟨rfl, t, c, rfl, h3, h4, h5⟩ := h2
  exact ⟨t, c, h1, h3, h4, h5⟩
theorem p_ref01_product (m n : Nat) (hm : (tN m).length ≤ 1000000) (hn : (tN n).length ≤ 1000000) : (ref01_product_T [.s (tN m), .s (tN n)]).run = some (0, [.s (tN (m * n))]) := by
  rw [ref01_product_eq]
  obtain ⟨cols, c1, c2, c3, c4⟩ := prod_outer (digs_tN m) (digs_tN n) hm hn
  obtain ⟨N, hN⟩ : ∃ N, N = (tN m).length + (tN n).length := ⟨_, rfl⟩
  have hp := tN_pos m
  rw [← hN] at c1 c2
  obtain ⟨t, c, t1, t2, t3, t4⟩ := prod_carry c2 (by omega) c3
  have ht : t ≠ [] := by intro h; subst h; simp at t3; omega
  have hb := p_ref01_bare t2 ht (by omega)
  have e0 : wadd .i64 (slen (tN m)) (slen (tN n)) = (N : Int) := by unfold slen; rw [wadd_eq (by omega)]; omega
  have e1 : (0 : Int) ≤ (N : Int) ∧ (N : Int) ≤ 17592186044416 := by omega
  have e1' : (0 : Int) ≤ (N : Int) ∧ (N : Int) ≤ 140737488355328 := by omega
  have e2 : rmake (N : Int) [.i 0] = rI (List.replicate N 0) := by rw [rI_make]; rfl
  have e3 : rlen (rI cols) = (N : Int) := by rw [rI_len, c2]
  have e4 : wsub .i64 (N : Int) 1 = (N : Int) - 1 := wsub_eq (by omega)
  have hval : val t = m * n := by
    have v1 := val_lt (digs_tN m)
    have v2 := val_lt (digs_tN n)
    have v3 := val_lt t2
    rw [t3] at v3
    rw [c4, val_tN, val_tN] at t4
    rw [val_tN] at v1 v2
    have v4 : m * n < 10 ^ N := by rw [hN, Nat.pow_add]; exact Nat.mul_lt_mul'' v1 v2
    have t5 : m * n = val t + c * 10 ^ N := by
      have : ((m * n : Nat) : Int) = ((val t + c * 10 ^ N : Nat) : Int) := by simpa using t4
      omega
    clear t4 c4 v1 v2
    generalize 10 ^ N = P at *
    rcases Nat.eq_zero_or_pos c with h | h
    · subst h; omega
    · have := Nat.mul_le_mul_right P h; omega
  rw [hval] at hb
  simp only [STD, e0, e1, e1', and_self, e2, c1, e3, e4, t1, rI_str_nat, hb]
theorem p_ref01_Times (m n : Int) (hm : nl m ≤ 1000000) (hn : nl n ≤ 1000000) : (ref01_Times_T [.s (tI m), .s (tI n)]).run = some (0, [.s (tI (m * n))]) := by
  rw [ref01_Times_eq]
  have hm' : (tN m.natAbs).length ≤ 1000000 := hm
  have hn' : (tN n.natAbs).length ≤ 1000000 := hn
  have hbr := p_ref01_brief m n
  have hP := p_ref01_product m.natAbs n.natAbs hm' hn'
  have lm := len_mul m.natAbs n.natAbs
  have hS := fun b => p_ref01_signed (m.natAbs * n.natAbs) b (by omega)
  have tm := tI_len m
  have tn := tI_len n
  have e0 : wadd .i64 (slen (tI m)) (slen (tI n)) = (((tI m).length + (tI n).length : Nat) : Int) := by unfold slen; rw [wadd_eq (by omega)]; omega
  have sg : (if (¬ ((m < 0) = (n < 0))) then -((m.natAbs * n.natAbs : Nat) : Int) else ((m.natAbs * n.natAbs : Nat) : Int)) = m * n := by
    by_cases h1 : m < 0 <;> by_cases h2 : n < 0
    · simp only [h1, h2, not_true_eq_false, if_false]
      rw [Int.natCast_mul, show (m.natAbs : Int) = -m by omega, show (n.natAbs : Int) = -n by omega]; grind
    · simp only [h1, h2]
      rw [if_pos (by simp), Int.natCast_mul, show (m.natAbs : Int) = -m by omega, show (n.natAbs : Int) = n by omega]; grind
    · simp only [h1, h2]
      rw [if_pos (by simp), Int.natCast_mul, show (m.natAbs : Int) = m by omega, show (n.natAbs : Int) = -n by omega]; grind
    · simp only [h1, h2, not_true_eq_false, if_false]
      rw [Int.natCast_mul, show (m.natAbs : Int) = m by omega, show (n.natAbs : Int) = n by omega]
  by_cases hb : (tN m.natAbs).length ≤ 18 ∧ (tN n.natAbs).length ≤ 18
  · rw [if_pos hb] at hbr
    by_cases h18 : (tI m).length + (tI n).length ≤ 18
    · have h18' : (((tI m).length + (tI n).length : Nat) : Int) ≤ 18 := by omega
      have lmn : (tN (m * n).natAbs).length ≤ 18 := by
        rw [Int.natAbs_mul]
        have h3 : ∀ q : Int, (tN q.natAbs).length ≤ (tI q).length := fun q => by unfold tI; split <;> simp
        have := h3 m; have := h3 n; omega
      have b1 : (m * n).natAbs < 1000000000000000000 := Nat.lt_of_lt_of_le (len_tN_lt lmn) (by decide)
      have e1 : wmul .i64 m n = m * n := wmul_eq (by omega)
      have e2 := p_ref01_Of (m * n) (by omega) (by omega)
      clear b1
      simp only [STD, hbr, e0, h18', e1, e2]
    · have h18' : ¬ (((tI m).length + (tI n).length : Nat) : Int) ≤ 18 := by omega
      simp only [STD, hbr, e0, h18', p_ref01_size, hP, p_ref01_Below, hS, decide_eq_decide]
      rw [← sg]; simp only [eq_iff_iff]
  · rw [if_neg hb] at hbr
    simp only [STD, hbr, p_ref01_size, hP, p_ref01_Below, hS, decide_eq_decide]
    rw [← sg]; simp only [eq_iff_iff]
end Go.Eng
