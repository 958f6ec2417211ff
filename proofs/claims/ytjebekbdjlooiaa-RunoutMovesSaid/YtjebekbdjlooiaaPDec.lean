import Derived.Test.YtjebekbdjlooiaaEngP
namespace Go.Eng
/-! ### decimal texts -/
def dch (d : Nat) : UInt8 := UInt8.ofNat (48 + d)
def dv (c : UInt8) : Nat := c.toNat - 48
def digs (s : List UInt8) : Prop := ∀ c, c ∈ s → 48 ≤ c.toNat ∧ c.toNat ≤ 57
def val (s : List UInt8) : Nat := s.foldl (fun a c => 10 * a + dv c) 0
def tNf : Nat → Nat → List UInt8
  | 0, _ => []
  | f + 1, n => if n < 10 then [dch n] else tNf f (n / 10) ++ [dch (n % 10)]
def tN (n : Nat) : List UInt8 := tNf (n + 1) n
def tI (n : Int) : List UInt8 := if n < 0 then 45 :: tN n.natAbs else tN n.natAbs

theorem dch_toNat {d : Nat} (h : d < 10) : (dch d).toNat = 48 + d := by
  unfold dch; rw [UInt8.toNat_ofNat']; omega
theorem dv_dch {d : Nat} (h : d < 10) : dv (dch d) = d := by unfold dv; rw [dch_toNat h]; omega
theorem dch_dv {c : UInt8} (h1 : 48 ≤ c.toNat) (h2 : c.toNat ≤ 57) : dch (dv c) = c := by
  apply UInt8.toNat_inj.1
  rw [dch_toNat (by unfold dv; omega)]; unfold dv; omega
theorem val_snoc (s : List UInt8) (c : UInt8) : val (s ++ [c]) = 10 * val s + dv c := by simp [val, List.foldl_append]
theorem foldl_val : ∀ (t : List UInt8) (a : Nat), t.foldl (fun a c => 10 * a + dv c) a = a * 10 ^ t.length + val t
  | [], a => by simp [val]
  | c :: t, a => by
    have h1 := foldl_val t (10 * a + dv c)
    have h2 := foldl_val t (10 * 0 + dv c)
    have h3 : val (c :: t) = t.foldl (fun a c => 10 * a + dv c) (10 * 0 + dv c) := rfl
    rw [h3, h2, List.foldl_cons, h1, List.length_cons, Nat.pow_succ]
    grind
theorem val_app (s t : List UInt8) : val (s ++ t) = val s * 10 ^ t.length + val t := by
  have h : val (s ++ t) = t.foldl (fun a c => 10 * a + dv c) (val s) := by simp [val, List.foldl_append]
  rw [h, foldl_val]
theorem val_cons (c : UInt8) (t : List UInt8) : val (c :: t) = dv c * 10 ^ t.length + val t := by
  have := val_app [c] t
  simpa [val] using this
theorem val_nil : val [] = 0 := rfl
theorem val_one (c : UInt8) : val [c] = dv c := by simp [val]
theorem digs_nil : digs [] := fun c h => by cases h
theorem digs_cons {c : UInt8} {s : List UInt8} : digs (c :: s) ↔ (48 ≤ c.toNat ∧ c.toNat ≤ 57) ∧ digs s := by
  unfold digs; simp
theorem digs_app {s t : List UInt8} : digs (s ++ t) ↔ digs s ∧ digs t := by
  unfold digs; simp only [List.mem_append]
  exact ⟨fun h => ⟨fun c hc => h c (.inl hc), fun c hc => h c (.inr hc)⟩, fun h c hc => hc.elim (h.1 c) (h.2 c)⟩
theorem dv_lt {c : UInt8} (h : 48 ≤ c.toNat ∧ c.toNat ≤ 57) : dv c < 10 := by unfold dv; omega
theorem val_lt : ∀ {s : List UInt8}, digs s → val s < 10 ^ s.length
  | [], _ => by simp [val]
  | c :: s, h => by
    obtain ⟨h1, h2⟩ := digs_cons.1 h
    have ih := val_lt h2
    have hd := dv_lt h1
    rw [val_cons, List.length_cons, Nat.pow_succ]
    have : dv c * 10 ^ s.length ≤ 9 * 10 ^ s.length := Nat.mul_le_mul_right _ (by omega)
    omega
theorem digs_dch {d : Nat} (h : d < 10) : digs [dch d] := by
  intro c hc
  simp at hc; subst hc
  rw [dch_toNat h]; omega

theorem tNf_eq : ∀ (f g n : Nat), n < f → n < g → tNf f n = tNf g n
  | 0, _, n, h, _ => by omega
  | _, 0, n, _, h => by omega
  | f + 1, g + 1, n, h1, h2 => by
    unfold tNf
    by_cases h : n < 10
    · rw [if_pos h, if_pos h]
    · rw [if_neg h, if_neg h, tNf_eq f g (n / 10) (by omega) (by omega)]
theorem tN_lt {n : Nat} (h : n < 10) : tN n = [dch n] := by unfold tN tNf; rw [if_pos h]
theorem tN_ge {n : Nat} (h : 10 ≤ n) : tN n = tN (n / 10) ++ [dch (n % 10)] := by
  have : tN n = tNf n (n / 10) ++ [dch (n % 10)] := by
    show tNf (n + 1) n = _
    rw [tNf, if_neg (by omega)]
  rw [this, tNf_eq n (n / 10 + 1) (n / 10) (by omega) (by omega)]; rfl
theorem tN_spec (n : Nat) : digs (tN n) ∧ tN n ≠ [] ∧ val (tN n) = n := by
  induction n using Nat.strongRecOn with
  | _ n ih =>
    by_cases h : n < 10
    · rw [tN_lt h]; exact ⟨digs_dch h, by simp, by rw [val_one, dv_dch h]⟩
    · rw [tN_ge (by omega)]
      obtain ⟨h1, h2, h3⟩ := ih (n / 10) (by omega)
      refine ⟨digs_app.2 ⟨h1, digs_dch (by omega)⟩, by simp, ?_⟩
      rw [val_snoc, h3, dv_dch (by omega)]; omega
theorem digs_tN (n : Nat) : digs (tN n) := (tN_spec n).1
theorem tN_ne (n : Nat) : tN n ≠ [] := (tN_spec n).2.1
theorem val_tN (n : Nat) : val (tN n) = n := (tN_spec n).2.2
theorem tN_pos (n : Nat) : 0 < (tN n).length := List.length_pos_iff.2 (tN_ne n)
theorem len_tN_le : ∀ (k n : Nat), n < 10 ^ (k + 1) → (tN n).length ≤ k + 1
  | 0, n, h => by rw [tN_lt (by simpa using h)]; simp
  | k + 1, n, h => by
    by_cases h10 : n < 10
    · rw [tN_lt h10]; simp
    · rw [tN_ge (by omega), List.length_append]
      have := len_tN_le k (n / 10) (by rw [Nat.pow_succ] at h; omega)
      simp; omega
theorem len_tN_gt : ∀ (k n : Nat), 10 ^ k ≤ n → k < (tN n).length
  | 0, n, _ => tN_pos n
  | k + 1, n, h => by
    have hp : 0 < 10 ^ k := Nat.pow_pos (by omega)
    rw [Nat.pow_succ] at h
    rw [tN_ge (by omega), List.length_append]
    have := len_tN_gt k (n / 10) (by omega)
    simp; omega
theorem len_tN_lt {k n : Nat} (h : (tN n).length ≤ k) : n < 10 ^ k := by
  have := val_lt (digs_tN n)
  rw [val_tN] at this
  exact Nat.lt_of_lt_of_le this (Nat.pow_le_pow_right (by omega) h)
/-- a digit in front that is not 0 -/
def lead (s : List UInt8) : Prop := s.length = 1 ∨ s.getD 0 0 ≠ 48
theorem val_lead {s : List UInt8} (hd : digs s) (hn : s ≠ []) (h : s.getD 0 0 ≠ 48) : 10 ^ (s.length - 1) ≤ val s := by
  cases s with
  | nil => exact absurd rfl hn
  | cons c s =>
    obtain ⟨h1, h2⟩ := digs_cons.1 hd
    simp at h
    have hc : 1 ≤ dv c := by
      unfold dv
      have : c.toNat ≠ 48 := fun e => h (UInt8.toNat_inj.1 (by simpa using e))
      omega
    rw [val_cons, List.length_cons, Nat.add_sub_cancel]
    have : 1 * 10 ^ s.length ≤ dv c * 10 ^ s.length := Nat.mul_le_mul_right _ hc
    omega
theorem tN_val : ∀ (n : Nat) {s : List UInt8}, s.length = n + 1 → digs s → lead s → tN (val s) = s
  | 0, s, hl, hd, _ => by
    match s, hl with
    | [c], _ =>
      have h1 := (digs_cons.1 hd).1
      rw [val_one, tN_lt (dv_lt h1), dch_dv h1.1 h1.2]
  | n + 1, s, hl, hd, hz => by
    obtain ⟨i, c, rfl⟩ : ∃ i c, s = i ++ [c] := ⟨s.dropLast, s.getLast (by intro h; simp [h] at hl), (List.dropLast_concat_getLast _).symm⟩
    have hil : i.length = n + 1 := by simpa using hl
    obtain ⟨h1, h2⟩ := digs_app.1 hd
    have hc := (digs_cons.1 h2).1
    have hi : i ≠ [] := by intro h; simp [h] at hil
    have hz0 : i.getD 0 0 ≠ 48 := by
      rcases hz with hz | hz
      · exact absurd (by simpa using hz) hi
      · cases i with
        | nil => exact absurd rfl hi
        | cons a i => simpa using hz
    have hv : 1 ≤ val i := Nat.le_trans (Nat.one_le_pow _ _ (by omega)) (val_lead h1 hi hz0)
    have hd10 := dv_lt hc
    rw [val_snoc, tN_ge (n := 10 * val i + dv c) (by omega), show (10 * val i + dv c) / 10 = val i by omega, show (10 * val i + dv c) % 10 = dv c by omega, dch_dv hc.1 hc.2, tN_val n hil h1 (.inr hz0)]
theorem tN_uniq {s : List UInt8} (hd : digs s) (hn : s ≠ []) (hz : lead s) : s = tN (val s) :=
  (tN_val (s.length - 1) (by have := List.length_pos_iff.2 hn; omega) hd hz).symm
theorem tN_inj {m n : Nat} (h : tN m = tN n) : m = n := by rw [← val_tN m, h, val_tN]
theorem lead_tN (n : Nat) : lead (tN n) := by
  induction n using Nat.strongRecOn with
  | _ n ih =>
    by_cases h : n < 10
    · rw [tN_lt h]; exact .inl rfl
    · rw [tN_ge (by omega)]
      right
      by_cases h2 : n / 10 < 10
      · rw [tN_lt h2]
        intro e
        have : (dch (n / 10)).toNat = 48 := by
          have e' : dch (n / 10) = 48 := by simpa using e
          rw [e']; rfl
        rw [dch_toNat h2] at this; omega
      · have h3 : (tN (n / 10)).length ≠ 1 := by
          have := len_tN_gt 1 (n / 10) (by omega); omega
        rcases ih (n / 10) (by omega) with h4 | h4
        · exact absurd h4 h3
        · cases hq : tN (n / 10) with
          | nil => exact absurd hq (tN_ne _)
          | cons a i => rw [hq] at h4; simpa using h4
/-! ### order of digits -/
theorem slt_nil (t : List UInt8) : slt [] t = !t.isEmpty := by cases t <;> rfl
theorem slt_cons (a b : UInt8) (s t : List UInt8) : slt (a :: s) (b :: t) = (decide (a < b) || (a == b && slt s t)) := by
  unfold slt
  simp only [Op.bytesLess]
theorem slt_val : ∀ {s t : List UInt8}, digs s → digs t → s.length = t.length → ((slt s t = true) = (val s < val t))
  | [], [], _, _, _ => by simp [slt_nil, val_nil]
  | a :: s, b :: t, h1, h2, hl => by
    obtain ⟨ha, hs⟩ := digs_cons.1 h1
    obtain ⟨hb, ht⟩ := digs_cons.1 h2
    have hl' : s.length = t.length := by simpa using hl
    have ih := slt_val hs ht hl'
    have v1 := val_lt hs
    have v2 := val_lt ht
    rw [slt_cons, val_cons, val_cons, hl']
    rw [hl'] at v1
    have hab : (a < b) = (dv a < dv b) := by
      unfold dv; rw [UInt8.lt_iff_toNat_lt]; simp only [eq_iff_iff]; omega
    have hab2 : (a = b) = (dv a = dv b) := by
      unfold dv; rw [← UInt8.toNat_inj]; simp only [eq_iff_iff]; omega
    simp only [Bool.or_eq_true, decide_eq_true_eq, Bool.and_eq_true, beq_iff_eq, eq_iff_iff, ih, hab, hab2]
    generalize 10 ^ t.length = p at *
    generalize dv a = x at *
    generalize dv b = y at *
    constructor
    · rintro (h | ⟨rfl, h⟩)
      · have := Nat.mul_le_mul_right p (show x + 1 ≤ y by omega)
        rw [Nat.add_mul] at this; omega
      · omega
    · intro h
      rcases Nat.lt_trichotomy x y with h3 | h3 | h3
      · exact .inl h3
      · subst h3; exact .inr ⟨rfl, by omega⟩
      · have := Nat.mul_le_mul_right p (show y + 1 ≤ x by omega)
        rw [Nat.add_mul] at this; omega
theorem len_mono {m n : Nat} (h : m ≤ n) : (tN m).length ≤ (tN n).length := by
  rcases Nat.lt_or_ge (tN n).length (tN m).length with h1 | h1
  · have h2 := len_tN_lt (Nat.le_refl (tN n).length)
    have h3 : 0 < (tN n).length := tN_pos n
    have := len_tN_le ((tN n).length - 1) m (by rw [Nat.sub_add_cancel h3]; omega)
    omega
  · exact h1
theorem less_tN (m n : Nat) : ((tN m).length < (tN n).length ∨ (tN m).length = (tN n).length ∧ slt (tN m) (tN n) = true) ↔ m < n := by
  constructor
  · rintro (h | ⟨h1, h2⟩)
    · rcases Nat.lt_or_ge m n with h3 | h3
      · exact h3
      · have := len_mono h3; omega
    · rw [slt_val (digs_tN m) (digs_tN n) h1, val_tN, val_tN] at h2; exact h2
  · intro h
    have h1 := len_mono (Nat.le_of_lt h)
    rcases Nat.lt_or_ge (tN m).length (tN n).length with h3 | h3
    · exact .inl h3
    · have h4 : (tN m).length = (tN n).length := by omega
      exact .inr ⟨h4, by rw [slt_val (digs_tN m) (digs_tN n) h4, val_tN, val_tN]; exact h⟩
/-! ### zeros in front -/
theorem val_zero (s : List UInt8) : val (48 :: s) = val s := by rw [val_cons]; simp [dv]
theorem val_zeros (n : Nat) (s : List UInt8) : val (List.replicate n 48 ++ s) = val s := by
  induction n with
  | zero => rfl
  | succ n ih => rw [List.replicate_succ, List.cons_append, val_zero, ih]
theorem digs_zeros (n : Nat) : digs (List.replicate n 48) := by
  intro c hc
  rw [(List.mem_replicate.1 hc).2]; decide
/-- zeros in front left out, but one digit kept -/
def bareL : List UInt8 → List UInt8
  | [] => []
  | [c] => [c]
  | c :: d :: s => if c = 48 then bareL (d :: s) else c :: d :: s
theorem bareL_tN : ∀ {s : List UInt8}, digs s → s ≠ [] → bareL s = tN (val s)
  | [], _, h => absurd rfl h
  | [c], hd, _ => by rw [bareL]; exact tN_uniq hd (by simp) (.inl rfl)
  | c :: d :: s, hd, _ => by
    rw [bareL]
    split
    · rename_i h; subst h
      rw [bareL_tN (digs_cons.1 hd).2 (by simp), val_zero]
    · rename_i h
      exact tN_uniq hd (by simp) (.inr (by simpa using h))
/-! ### rows of one int -/
def rI (l : List Int) : R := l.map fun v => [.i v]
theorem rI_len (l : List Int) : rlen (rI l) = l.length := by simp [rlen, rI]
theorem rI_length (l : List Int) : (rI l).length = l.length := by simp [rI]
theorem rI_cI (l : List Int) (i : Int) : cI (rI l) i 0 = l.getD i.toNat 0 := by
  unfold cI cellU rI
  simp only [List.getD_eq_getElem?_getD, List.getElem?_map]
  cases l[i.toNat]? <;> rfl
theorem rowSet_one (x v : U) : rowSet [x] 0 [v] = [v] := rfl
theorem rI_set (l : List Int) (i v : Int) : rset (rI l) i 0 [.i v] = rI (l.set i.toNat v) := by
  unfold rset rI
  apply List.ext_getElem?
  intro j
  by_cases hj : j = i.toNat
  · subst hj
    by_cases hl : i.toNat < l.length
    · simp [List.getElem?_set_self, hl, List.getD_eq_getElem?_getD, rowSet_one]
    · rw [List.getElem?_eq_none (by simp; omega), List.getElem?_eq_none (by simp; omega)]
  · rw [List.getElem?_set_ne (Ne.symm hj), List.getElem?_map, List.getElem?_map, List.getElem?_set_ne (Ne.symm hj)]
theorem rI_make (n v : Int) : rmake n [.i v] = rI (List.replicate n.toNat v) := by simp [rmake, rI]
theorem rI_str (l : List Int) : rstr (rI l) = l.map fun v => UInt8.ofNat v.toNat := by
  unfold rstr rI
  rw [List.map_map]
  rfl
theorem rI_cpy (l : List Int) (i : Int) (s : List UInt8) : rcpy (rI l) i s = rI (l.take i.toNat ++ s.map (fun c => (c.toNat : Int)) ++ l.drop (i.toNat + s.length)) := by
  unfold rcpy rI
  simp [List.map_take, List.map_drop]
theorem ofNat_toNat (c : UInt8) : UInt8.ofNat ((c.toNat : Int)).toNat = c := by simp
theorem rI_str_nat (s : List UInt8) : rstr (rI (s.map fun c => (c.toNat : Int))) = s := by
  rw [rI_str, List.map_map]
  have : ((fun v : Int => UInt8.ofNat v.toNat) ∘ fun c : UInt8 => (c.toNat : Int)) = id := by
    funext c; simp
  rw [this, List.map_id]
theorem sat_nat {s : List UInt8} {i : Nat} (h : i < s.length) : sat s (i : Int) = (s[i].toNat : Int) := by
  unfold sat
  simp [List.getD_eq_getElem?_getD, h]
theorem seq_iff (s t : List UInt8) : (seq s t = true) = (s = t) := by simp [seq]
theorem wsub8 {x : Int} (h : 48 ≤ x ∧ x ≤ 255) : wsub .u8 x 48 = x - 48 := by
  unfold wsub IntKind.wrap
  simp [IntKind.signed, IntKind.bits]; omega
theorem wconv8 {x : Int} (h : 0 ≤ x ∧ x ≤ 255) : wconv .u8 x = x := by
  unfold wconv IntKind.wrap
  simp [IntKind.signed, IntKind.bits]; omega
theorem wrem_nat (a b : Nat) : wrem (a : Int) (b : Int) = ((a % b : Nat) : Int) := by
  unfold wrem; rw [Int.tmod_eq_emod_of_nonneg (by omega)]; rfl
theorem wquo_nat {a b : Nat} (h : a < 9223372036854775808) : wquo .i64 (a : Int) (b : Int) = ((a / b : Nat) : Int) := by
  unfold wquo
  rw [Int.tdiv_eq_ediv_of_nonneg (by omega)]
  have : (a : Int) / (b : Int) = ((a / b : Nat) : Int) := rfl
  have h2 : a / b ≤ a := Nat.div_le_self a b
  rw [this]
  generalize a / b = q at *
  unfold IntKind.wrap
  simp [IntKind.signed, IntKind.bits]; omega
/-! ### a loop by a law that it keeps -/
theorem loop_inv {S : List PV → TR} (I : Nat → List PV → Prop) (Q : Nat → List PV → Prop) {n : Nat} (hn : n < 9223372036854775808)
    (h : ∀ k ps, k ≤ n → I k ps → (∃ k' qs, k' < k ∧ (S ps).run = some (0, qs) ∧ I k' qs) ∨ ∃ j qs, (S ps).run = some (j + 1, qs) ∧ Q j qs) {ps : List PV} (h0 : I n ps) : ∃ j qs, (loopT S ps).run = some (j, qs) ∧ Q j qs := by
  have key : ∀ m k ps, k ≤ n → k < m → I k ps → ∃ j qs, (iterT S m ps).run = some (j, qs) ∧ Q j qs := by
    intro m
    induction m with
    | zero => intro k ps _ h; omega
    | succ m ih =>
      intro k ps hk hm hI
      rcases h k ps hk hI with ⟨k', qs, h1, h2, h3⟩ | ⟨j, qs, h1, h2⟩
      · obtain ⟨j, rs, g1, g2⟩ := ih k' qs (by omega) (by omega) h3
        exact ⟨j, rs, by rw [iterT_go h2]; exact g1, g2⟩
      · exact ⟨j, qs, iterT_end h1, h2⟩
  exact key rounds n ps (Nat.le_refl _) (Nat.lt_trans hn (by unfold rounds; decide)) h0
end Go.Eng
