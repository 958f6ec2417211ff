import Derived.Test.YtjebekbdjlooiaaQ
import Derived.Test.YtjebekbdjlooiaaPDec
namespace Go.Eng
/-! ### the reference's integers: texts of decimal digits -/
theorem tI_neg {m : Int} (h : m < 0) : tI m = 45 :: tN m.natAbs := by unfold tI; rw [if_pos h]
theorem tI_nn {m : Int} (h : ¬ m < 0) : tI m = tN m.natAbs := by unfold tI; rw [if_neg h]
theorem tI_nat (n : Nat) : tI (n : Int) = tN n := by rw [tI_nn (by omega)]; rfl
theorem tN_zero : tN 0 = [48] := rfl
theorem head_dig {s : List UInt8} (hd : digs s) (hn : s ≠ []) : ∃ c t, s = c :: t ∧ 48 ≤ c.toNat ∧ c.toNat ≤ 57 := by
  cases s with
  | nil => exact absurd rfl hn
  | cons c t => exact ⟨c, t, rfl, (digs_cons.1 hd).1⟩
theorem tI_len (m : Int) : (tI m).length ≤ (tN m.natAbs).length + 1 := by unfold tI; split <;> simp
theorem tI_pos (m : Int) : 0 < (tI m).length := by
  have := tN_pos m.natAbs
  unfold tI; split <;> simp <;> omega
theorem tI_inj {m n : Int} (h : tI m = tI n) : m = n := by
  have key : ∀ {m n : Int}, m < 0 → ¬ n < 0 → tI m ≠ tI n := by
    intro m n h1 h2 e
    rw [tI_neg h1, tI_nn h2] at e
    obtain ⟨c, t, hc, h3, h4⟩ := head_dig (digs_tN n.natAbs) (tN_ne _)
    rw [hc] at e
    have := (List.cons.inj e).1
    rw [← this] at h3
    exact absurd h3 (by decide)
  by_cases h1 : m < 0 <;> by_cases h2 : n < 0
  · rw [tI_neg h1, tI_neg h2] at h
    have := tN_inj (List.cons.inj h).2
    omega
  · exact absurd h (key h1 h2)
  · exact absurd h.symm (key h2 h1)
  · rw [tI_nn h1, tI_nn h2] at h
    have := tN_inj h
    omega
theorem sat_tI (m : Int) : (sat (tI m) 0 = 45) = (m < 0) := by
  by_cases h : m < 0
  · rw [tI_neg h]; simp [sat, h]
  · rw [tI_nn h]
    obtain ⟨c, t, hc, h3, h4⟩ := head_dig (digs_tN m.natAbs) (tN_ne _)
    rw [hc]
    simp [sat, h]; omega
theorem p_ref01_size (m : Int) : (ref01_size_T [.s (tI m)]).run = some (0, [.s (tN m.natAbs)]) := by
  rw [ref01_size_eq]
  have hp := tI_pos m
  have hne : ¬ tI m = [] := fun h => by rw [h] at hp; simp at hp
  have h1 : (0 : Int) < slen (tI m) := by unfold slen; omega
  have h2 : (1 : Int) ≤ slen (tI m) := by omega
  simp only [STD, seq_iff, hne, h1, h2, sat_tI, Int.le_refl, show (0 : Int) ≤ slen (tI m) by omega, and_self, show (0 : Int) ≤ 1 by omega]
  by_cases h : m < 0
  · rw [if_pos h, tI_neg h]; simp [ssub, slen]
  · rw [if_neg h, tI_nn h]
theorem p_ref01_Below (m : Int) : (ref01_Below_T [.s (tI m)]).run = some (0, [.b (decide (m < 0))]) := by
  rw [ref01_Below_eq]
  have hp := tI_pos m
  have h1 : (0 : Int) < slen (tI m) := by unfold slen; omega
  have h2 : ieq (sat (tI m) 0) 45 = decide (m < 0) := by
    have := sat_tI m
    by_cases h : m < 0 <;> simp [ieq, h] at this ⊢ <;> exact this
  simp only [STD, h1, h2, Int.le_refl, and_self]
theorem p_ref01_signed (n : Nat) (b : Bool) (hl : (tN n).length ≤ 100000000) : (ref01_signed_T [.s (tN n), .b b]).run = some (0, [.s (tI (if b then -(n : Int) else n))]) := by
  rw [ref01_signed_eq]
  have h1 : slen [45] + slen (tN n) ≤ 140737488355328 := by show (1 : Int) + ((tN n).length : Int) ≤ _; omega
  have h0 : (tN n = [48]) = (n = 0) := by
    rw [← tN_zero]; exact propext ⟨fun h => tN_inj h, fun h => by rw [h]⟩
  simp only [STD, seq_iff, h1, h0]
  cases b with
  | false => simp [tI_nat]
  | true =>
    by_cases hn : n = 0
    · subst hn; simp [tI, tN_zero]
    · have : (-(n : Int)) < 0 := by omega
      simp [hn, tI_neg this, sapp]
theorem p_ref01_Turned (m : Int) (hl : (tN m.natAbs).length ≤ 100000000) : (ref01_Turned_T [.s (tI m)]).run = some (0, [.s (tI (-m))]) := by
  rw [ref01_Turned_eq]
  simp only [STD, p_ref01_size, p_ref01_Below, p_ref01_signed _ _ hl]
  have e : (if ¬ m < 0 then -(m.natAbs : Int) else (m.natAbs : Int)) = -m := by
    by_cases h : m < 0
    · rw [if_neg (by simp [h])]; omega
    · rw [if_pos (by simp [h])]; omega
  rw [e]
theorem val_take_succ {s : List UInt8} {i : Nat} (h : i < s.length) : val (s.take (i + 1)) = 10 * val (s.take i) + dv s[i] := by
  rw [List.take_add_one, List.getElem?_eq_getElem h, Option.toList_some, val_snoc]
theorem digs_take {s : List UInt8} (h : digs s) (i : Nat) : digs (s.take i) := fun c hc => h c (List.mem_of_mem_take hc)
theorem digs_drop {s : List UInt8} (h : digs s) (i : Nat) : digs (s.drop i) := fun c hc => h c (List.mem_of_mem_drop hc)
theorem digs_get {s : List UInt8} (h : digs s) {i : Nat} (hi : i < s.length) : 48 ≤ s[i].toNat ∧ s[i].toNat ≤ 57 := h _ (List.getElem_mem hi)
theorem sat_dig {s : List UInt8} (h : digs s) {i : Nat} (hi : i < s.length) : wconv .i64 (wsub .u8 (sat s (i : Int)) 48) = (dv s[i] : Int) ∧ dv s[i] < 10 := by
  have hd := digs_get h hi
  rw [sat_nat hi, wsub8 (by omega), wconv_eq (by omega)]
  unfold dv; omega
theorem p_ref01_number (m : Int) (hl : (tN m.natAbs).length ≤ 18) : (ref01_number_T [.s (tI m)]).run = some (0, [.i m]) := by
  rw [ref01_number_eq]
  have hd := digs_tN m.natAbs
  have k := loop_count (S := ref01_number_L4S) (fun i => [.s (tI m), .i (val ((tN m.natAbs).take i) : Int), .s (tN m.natAbs), .i (i : Int)]) (0, [.s (tI m), .i (m.natAbs : Int)]) (tN m.natAbs).length (by omega) (fun i hi => by
    rw [ref01_number_L4eq]
    obtain ⟨e1, e2⟩ := sat_dig hd hi
    have hv := val_lt (digs_take hd i)
    have hv2 : 10 ^ ((tN m.natAbs).take i).length ≤ 100000000000000000 := Nat.le_trans (Nat.pow_le_pow_right (n := 10) (by omega) (show _ ≤ 17 by rw [List.length_take]; omega)) (by decide)
    have hv3 := Nat.lt_of_lt_of_le hv hv2
    clear hv hv2
    have hlt : (i : Int) < slen (tN m.natAbs) := by unfold slen; omega
    have e3 : wadd .i64 (wmul .i64 10 (val ((tN m.natAbs).take i) : Int)) (dv (tN m.natAbs)[i] : Int) = ((10 * val ((tN m.natAbs).take i) + dv (tN m.natAbs)[i] : Nat) : Int) := by
      rw [wmul_eq (by omega), wadd_eq (by omega)]; omega
    simp only [STD, hlt, idx_nn, and_self, e1, wsucc hi (by omega), val_take_succ hi, e3]) (by
    rw [ref01_number_L4eq]
    have : ¬ ((tN m.natAbs).length : Int) < slen (tN m.natAbs) := by unfold slen; omega
    simp only [STD, this, List.take_length, val_tN])
  have k' : (loopT ref01_number_L4S [.s (tI m), .i 0, .s (tN m.natAbs), .i 0]).run = _ := k
  have hm : m.natAbs < 1000000000000000000 := Nat.lt_of_lt_of_le (len_tN_lt hl) (by decide)
  have hneg : m < 0 → wsub .i64 0 (m.natAbs : Int) = m := fun h => by rw [wneg_eq (by omega)]; omega
  have hpos : ¬ m < 0 → (m.natAbs : Int) = m := fun h => by omega
  clear hm k hd
  simp only [STD, p_ref01_size, k', p_ref01_Below]
  by_cases h : m < 0
  · rw [if_pos h, hneg h]
  · rw [if_neg h, hpos h]
theorem p_ref01_brief (m n : Int) : (ref01_brief_T [.s (tI m), .s (tI n)]).run = some (0, if (tN m.natAbs).length ≤ 18 ∧ (tN n.natAbs).length ≤ 18 then [.i m, .i n, .b true] else [.i 0, .i 0, .b false]) := by
  rw [ref01_brief_eq]
  have e : ∀ t : List UInt8, (18 < slen t) = ¬ (t.length ≤ 18) := fun t => by unfold slen; simp only [eq_iff_iff]; omega
  by_cases h1 : (tN m.natAbs).length ≤ 18
  · by_cases h2 : (tN n.natAbs).length ≤ 18
    · simp only [STD, p_ref01_size, e, h1, h2, p_ref01_number m h1, p_ref01_number n h2, and_self]
    · simp only [STD, p_ref01_size, e, h1, h2, and_false]
  · simp only [STD, p_ref01_size, e, h1, false_and]
theorem rstr_dig {d : Int} (h0 : 0 ≤ d) (h : d < 10) : rstr [[.i (wconv .u8 (wadd .i64 48 d))]] = [dch d.toNat] := by
  rw [wadd_eq (by omega), wconv8 (by omega)]
  show [UInt8.ofNat (48 + d).toNat] = [UInt8.ofNat (48 + d.toNat)]
  rw [show (48 + d).toNat = 48 + d.toNat by omega]
theorem of_loop {S : List PV → TR} (hS : ∀ (y0 : Int) (y1 : List UInt8), S [.i y0, .s y1] = (.br (ilt 9 y0) (.br (ile ((slen (rstr [[(.i (wconv .u8 (wadd .i64 48 (wrem y0 10))))]])) + (slen y1)) 140737488355328) (.leaf (0, [(.i (wquo .i64 y0 10)), (.s (sapp (rstr [[(.i (wconv .u8 (wadd .i64 48 (wrem y0 10))))]]) y1))])) .fail) (.leaf (1, [(.i y0), (.s y1)]))))
    (n : Nat) (hn : n < 9223372036854775808) : ∃ (a : Nat) (r : List UInt8), (loopT S [.i (n : Int), .s []]).run = some (0, [.i (a : Int), .s r]) ∧ a < 10 ∧ tN n = tN a ++ r := by
  have hlen : (tN n).length ≤ 19 := len_tN_le 18 n (by omega)
  obtain ⟨j, qs, h1, h2⟩ := loop_inv (S := S) (fun k ps => ∃ (r : List UInt8), ps = [.i (k : Int), .s r] ∧ tN n = tN k ++ r) (fun j qs => ∃ (a : Nat) (r : List UInt8), j = 0 ∧ qs = [.i (a : Int), .s r] ∧ a < 10 ∧ tN n = tN a ++ r) hn (fun k ps hk ⟨r, hps, ht⟩ => by
    subst hps
    by_cases h9 : k < 10
    · right
      have : ¬ (9 : Int) < (k : Int) := by omega
      exact ⟨0, _, by rw [hS]; simp only [STD, this], k, r, rfl, rfl, h9, ht⟩
    · left
      have h9' : (9 : Int) < (k : Int) := by omega
      have hr : wrem (k : Int) 10 = ((k % 10 : Nat) : Int) := wrem_nat k 10
      have hq : wquo .i64 (k : Int) 10 = ((k / 10 : Nat) : Int) := wquo_nat (b := 10) (by omega)
      have hd : rstr [[(.i (wconv .u8 (wadd .i64 48 (wrem (k : Int) 10))))]] = [dch (k % 10)] := by
        rw [hr, rstr_dig (by omega) (by omega)]; rfl
      have hrl : r.length ≤ 19 := by
        have := congrArg List.length ht
        rw [List.length_append] at this; omega
      have hle : slen [dch (k % 10)] + slen r ≤ 140737488355328 := by
        show (1 : Int) + (r.length : Int) ≤ _; omega
      refine ⟨k / 10, [.i ((k / 10 : Nat) : Int), .s ([dch (k % 10)] ++ r)], by omega, ?_, _, rfl, ?_⟩
      · rw [hS]; simp only [STD, h9', hd, hq, hle]; rfl
      · rw [ht, tN_ge (by omega), List.append_assoc]) (ps := [.i (n : Int), .s []]) ⟨[], rfl, by simp⟩
  obtain ⟨a, r, rfl, rfl, h3, h4⟩ := h2
  exact ⟨a, r, h1, h3, h4⟩
theorem of_tail {a : Nat} {r : List UInt8} (ha : a < 10) : sapp (rstr [[(.i (wconv .u8 (wadd .i64 48 (a : Int))))]]) r = tN a ++ r := by
  rw [rstr_dig (by omega) (by omega), tN_lt ha]; rfl
theorem of_le {a : Nat} {r : List UInt8} (ha : a < 10) (hr : r.length ≤ 1000) : slen (rstr [[(.i (wconv .u8 (wadd .i64 48 (a : Int))))]]) + slen r ≤ 140737488355328 := by
  rw [rstr_dig (by omega) (by omega)]
  show (1 : Int) + (r.length : Int) ≤ _; omega
theorem wneg64 {x : Int} (h1 : -9223372036854775808 < x) (h2 : x ≤ 9223372036854775807) : wsub .i64 0 x = -x := wneg_eq (by omega)
theorem of_nn (n : Nat) (hn : n < 9223372036854775808) : (ref01_Of_0T [.i (n : Int)]).run = some (0, [.s (tN n)]) ∧ (ref01_Of_T [.i (n : Int)]).run = some (0, [.s (tN n)]) := by
  obtain ⟨a, r, h1, h2, h3⟩ := of_loop ref01_Of_0L9eq n hn
  obtain ⟨a', r', h1', h2', h3'⟩ := of_loop ref01_Of_L9eq n hn
  have hlen : (tN n).length ≤ 19 := len_tN_le 18 n (by omega)
  have hr : r.length ≤ 1000 := by have := congrArg List.length h3; rw [List.length_append] at this; omega
  have hr' : r'.length ≤ 1000 := by have := congrArg List.length h3'; rw [List.length_append] at this; omega
  have hneg : wsub .i64 0 (n : Int) = -(n : Int) := wneg64 (by omega) (by omega)
  have h0 : ((n : Int) = -(n : Int)) = (n = 0) := by simp only [eq_iff_iff]; omega
  have hlt : ¬ (n : Int) < 0 := by omega
  have hz : ((n : Int) = 0) = (n = 0) := by simp only [eq_iff_iff]; omega
  constructor
  · rw [ref01_Of_0eq]
    simp only [STD, hneg, h0, hz, hlt, h1, of_tail h2, of_le h2 hr, ← h3]
    by_cases h : n = 0 <;> simp [h]
  · rw [ref01_Of_eq]
    simp only [STD, hneg, h0, hz, hlt, h1', of_tail h2', of_le h2' hr', ← h3']
    by_cases h : n = 0 <;> simp [h]
theorem p_ref01_Of (n : Int) (h1 : -9223372036854775808 < n) (h2 : n ≤ 9223372036854775807) : (ref01_Of_T [.i n]).run = some (0, [.s (tI n)]) := by
  by_cases h : n < 0
  · obtain ⟨a, ha⟩ : ∃ a : Nat, n = -(a : Int) := ⟨n.natAbs, by omega⟩
    subst ha
    have hneg : wsub .i64 0 (-(a : Int)) = (a : Int) := by rw [wneg64 (by omega) (by omega)]; omega
    have hlen : (tN a).length ≤ 19 := len_tN_le 18 a (by omega)
    have ht := p_ref01_Turned (a : Int) (by simp; omega)
    rw [tI_nat] at ht
    rw [ref01_Of_eq]
    have e1 : ¬ (-(a : Int) = (a : Int)) := by omega
    simp only [STD, hneg, h, e1, (of_nn a (by omega)).1, ht]
  · obtain ⟨a, rfl⟩ : ∃ a : Nat, n = (a : Int) := ⟨n.toNat, by omega⟩
    rw [(of_nn a (by omega)).2, tI_nat]
theorem p_ref01_less (m n : Nat) : (ref01_less_T [.s (tN m), .s (tN n)]).run = some (0, [.b (decide (m < n))]) := by
  rw [ref01_less_eq]
  have h := less_tN m n
  have e1 : (slen (tN m) < slen (tN n)) = ((tN m).length < (tN n).length) := by unfold slen; simp only [eq_iff_iff]; omega
  have e2 : (slen (tN m) = slen (tN n)) = ((tN m).length = (tN n).length) := by unfold slen; simp only [eq_iff_iff]; omega
  simp only [STD, e1, e2]
  by_cases h1 : (tN m).length < (tN n).length
  · have : m < n := h.1 (.inl h1)
    simp [h1, this]
  · by_cases h2 : (tN m).length = (tN n).length
    · cases hs : slt (tN m) (tN n) with
      | true => simp [h1, h2, h.1 (.inr ⟨h2, hs⟩)]
      | false =>
        have : ¬ m < n := fun hh => by rcases h.2 hh with h3 | ⟨_, h3⟩ <;> simp_all
        simp [h1, h2, this]
    · have : ¬ m < n := fun hh => by rcases h.2 hh with h3 | ⟨h3, _⟩ <;> omega
      simp [h1, h2, this]
end Go.Eng
