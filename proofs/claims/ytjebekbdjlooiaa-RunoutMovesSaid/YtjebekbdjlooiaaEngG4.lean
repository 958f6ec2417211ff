/- ENGINE G4. A region whose order is open: the theorem. -/
import Derived.Test.YtjebekbdjlooiaaEngG3
namespace Go.Eng

/-! ### Who must come before whom -/
def ancStep (acc : List Nat) (o : Oper) : Nat := o.after.toList.foldl (fun s e => if Region.binds .any e then s ||| 2 ^ e.on ||| acc.getD e.on 0 else s) 0

theorem ancStep_bit (acc : List Nat) (x : Nat) : ∀ (es : List Edge) (s : Nat), (es.foldl (fun s e => if Region.binds .any e then s ||| 2 ^ e.on ||| acc.getD e.on 0 else s) s).testBit x = true →
    s.testBit x = true ∨ ∃ e, e ∈ es ∧ Region.binds .any e = true ∧ (x = e.on ∨ (acc.getD e.on 0).testBit x = true)
  | [], s, h => .inl h
  | e :: es, s, h => by
    simp only [List.foldl_cons] at h
    rcases ancStep_bit acc x es _ h with h1 | ⟨e', h1, h2, h3⟩
    · split at h1
      · rename_i hb
        rw [Nat.testBit_or, Nat.testBit_or, Bool.or_eq_true, Bool.or_eq_true] at h1
        rcases h1 with (h1 | h1) | h1
        · exact .inl h1
        · rw [Nat.testBit_two_pow] at h1
          have h2 : e.on = x := by simpa using h1
          exact .inr ⟨e, List.mem_cons_self, hb, .inl h2.symm⟩
        · exact .inr ⟨e, List.mem_cons_self, hb, .inr h1⟩
      · exact .inl h1
    · exact .inr ⟨e', List.mem_cons_of_mem _ h1, h2, h3⟩

/-- every bit has a ground -/
def AncOk (ops : List Oper) (acc : List Nat) : Prop :=
  ∀ i x, (acc.getD i 0).testBit x = true → ∃ o e, ops[i]? = some o ∧ e ∈ o.after.toList ∧ Region.binds .any e = true ∧ (x = e.on ∨ (acc.getD e.on 0).testBit x = true)

theorem ancFold_ok : ∀ (rest done : List Oper) (acc : List Nat), acc.length = done.length → AncOk done acc → AncOk (done ++ rest) (rest.foldl (fun acc o => acc ++ [ancStep acc o]) acc)
  | [], done, acc, _, h => by simpa using h
  | o :: rest, done, acc, hl, h => by
    simp only [List.foldl_cons]
    have := ancFold_ok rest (done ++ [o]) (acc ++ [ancStep acc o]) (by simp [hl]) ?_
    · simpa using this
    · intro i x hb
      have grow : ∀ (j x : Nat), (acc.getD j 0).testBit x = true → ((acc ++ [ancStep acc o]).getD j 0).testBit x = true := by
        intro j x hj
        rcases Nat.lt_or_ge j acc.length with hlt | hge
        · rw [List.getD_eq_getElem?_getD, List.getElem?_append_left hlt, ← List.getD_eq_getElem?_getD]; exact hj
        · rw [List.getD_eq_getElem?_getD, List.getElem?_eq_none hge] at hj; simp at hj
      rcases Nat.lt_or_ge i acc.length with hlt | hge
      · rw [List.getD_eq_getElem?_getD, List.getElem?_append_left hlt, ← List.getD_eq_getElem?_getD] at hb
        obtain ⟨o', e, h1, h2, h3, h4⟩ := h i x hb
        refine ⟨o', e, by rw [List.getElem?_append_left (by omega)]; exact h1, h2, h3, ?_⟩
        exact h4.elim .inl fun q => .inr (grow _ _ q)
      · rcases Nat.eq_or_lt_of_le hge with he | hgt
        · rw [List.getD_eq_getElem?_getD, ← he, List.getElem?_append_right (Nat.le_refl _)] at hb
          simp only [Nat.sub_self, List.getElem?_cons_zero, Option.getD_some] at hb
          rcases ancStep_bit acc x _ _ hb with h1 | ⟨e, h1, h2, h3⟩
          · simp at h1
          · exact ⟨o, e, by rw [← he, List.getElem?_append_right (by omega)]; simp [hl], h1, h2, h3.elim .inl fun q => .inr (grow _ _ q)⟩
        · rw [List.getD_eq_getElem?_getD, List.getElem?_eq_none (by simp; omega)] at hb
          simp at hb

theorem ancOf_ok (ops : List Oper) : AncOk ops (ancOf ops) := by
  have := ancFold_ok ops [] [] rfl (fun i x h => by simp at h)
  exact this

/-- what the check says -/
structure DrawOk (all : Array Oper) : Prop where
  edge : ∀ i o, all[i]? = some o → ∀ e, e ∈ o.after.toList → Region.binds .any e = true → e.on < i
  dst : ∀ i j oi oj, all[i]? = some oi → all[j]? = some oj → j ≠ i → ∀ t, oj.dst = some t → oi.dst ≠ some t ∧
    (t ∈ looks all oi → ((ancOf all.toList).getD i 0).testBit j = true ∨ ((ancOf all.toList).getD j 0).testBit i = true)

theorem drawB_ok {all : Array Oper} (h : drawB all = true) : DrawOk all := by
  unfold drawB at h
  simp only [List.all_eq_true, List.mem_range] at h
  have main : ∀ i oi, all[i]? = some oi → (∀ e, e ∈ oi.after.toList → Region.binds .any e = true → e.on < i) ∧
      ∀ j oj, all[j]? = some oj → j ≠ i → ∀ t, oj.dst = some t → oi.dst ≠ some t ∧ (t ∈ looks all oi → ((ancOf all.toList).getD i 0).testBit j = true ∨ ((ancOf all.toList).getD j 0).testBit i = true) := by
    intro i oi hi
    have hi' : all.toList[i]? = some oi := by simpa using hi
    have := h i (lt_of_get hi')
    rw [hi'] at this
    simp only [Bool.and_eq_true, List.all_eq_true, List.mem_range, Bool.or_eq_true, beq_iff_eq] at this
    obtain ⟨h1, h2⟩ := this
    refine ⟨fun e he hb => ?_, fun j oj hj hne t ht => ?_⟩
    · have := h1 e he
      rw [hb] at this
      simpa using this
    · have hj' : all.toList[j]? = some oj := by simpa using hj
      have := (h2 j (lt_of_get hj')).resolve_left hne
      rw [hj'] at this
      simp only [ht, Bool.and_eq_true, bne_iff_ne, ne_eq, Bool.or_eq_true, Bool.not_eq_true', List.contains_eq_mem, decide_eq_false_iff_not] at this
      refine ⟨this.1, fun hm => ?_⟩
      rcases this.2 with (h3 | h3) | h3
      · exact absurd hm h3
      · exact .inl h3
      · exact .inr h3
  exact ⟨fun i o hi => (main i o hi).1, fun i j oi oj hi hj hne => (main i oi hi).2 j oj hj hne⟩

theorem anc_lt {all : Array Oper} (hd : DrawOk all) : ∀ (i x : Nat), ((ancOf all.toList).getD i 0).testBit x = true → x < i := by
  intro i
  induction i using Nat.strongRecOn with
  | _ i ih =>
    intro x hx
    obtain ⟨o, e, h1, h2, h3, h4⟩ := ancOf_ok all.toList i x hx
    have he := hd.edge i o (by simpa using h1) e h2 h3
    rcases h4 with rfl | h4
    · exact he
    · have := ih e.on he x h4; omega

/-- a set of operations that holds with each one what must come before it -/
def Closed (all : Array Oper) (L : Nat → Bool) : Prop := ∀ i o, all[i]? = some o → L i = true → ∀ e, e ∈ o.after.toList → Region.binds .any e = true → L e.on = true

theorem anc_in {all : Array Oper} (hd : DrawOk all) {L : Nat → Bool} (hc : Closed all L) : ∀ (i x : Nat), L i = true → ((ancOf all.toList).getD i 0).testBit x = true → L x = true := by
  intro i
  induction i using Nat.strongRecOn with
  | _ i ih =>
    intro x hi hx
    obtain ⟨o, e, h1, h2, h3, h4⟩ := ancOf_ok all.toList i x hx
    have ho : all[i]? = some o := by simpa using h1
    have he := hc i o ho hi e h2 h3
    rcases h4 with rfl | h4
    · exact he
    · exact ih e.on (hd.edge i o ho e h2 h3) x he h4

/-! ### One operation finds what it finds in index order -/
section
variable {E : Env} {callS : CallS} {h : List Blk} {all : Array Oper} {V : Nat → AV} {T0 : List AV}

def dstOf (all : Array Oper) : Nat → Option Tmp := fun i => (all[i]?).bind (·.dst)

theorem same_at (hd : DrawOk all) {L : Nat → Bool} (hc : Closed all L) {n i : Nat} {o : Oper} (hi : all[i]? = some o) (hin : i ≤ n) (hL : L i = false)
    (hedge : ∀ e, e ∈ o.after.toList → Region.binds .any e = true → L e.on = true) {t : Tmp} (ht : t ∈ looks all o) :
    (TLp (dstOf all) V T0 L n)[t]? = (TLp (dstOf all) V T0 (fun _ => true) i)[t]? := by
  by_cases hex : ∃ j oj, all[j]? = some oj ∧ j ≠ i ∧ oj.dst = some t
  · obtain ⟨j, oj, hj, hne, hjt⟩ := hex
    have hdj : dstOf all j = some t := by simp [dstOf, hj, hjt]
    have huniq : ∀ m k, k < m → k ≠ j → dstOf all k ≠ some t := by
      intro m k _ hkj he
      unfold dstOf at he
      cases hk : all[k]? with
      | none => rw [hk] at he; cases he
      | some ok =>
        rw [hk] at he
        simp only [Option.bind_some] at he
        exact (hd.dst j k oj ok hj hk hkj t he).1 hjt
    rcases (hd.dst i j o oj hi hj hne t hjt).2 ht with ha | ha
    · -- it came before
      have hji := anc_lt hd i j ha
      have hLj : L j = true := by
        obtain ⟨o', e, h1, h2, h3, h4⟩ := ancOf_ok all.toList i j ha
        have : o' = o := by
          have h1' : all[i]? = some o' := by simpa using h1
          rw [hi] at h1'; exact (Option.some.inj h1').symm
        subst this
        have he := hedge e h2 h3
        rcases h4 with rfl | h4
        · exact he
        · exact anc_in hd hc _ _ he h4
      rw [TLp_some hLj hdj n (by omega) (huniq n), TLp_some rfl hdj i hji (huniq i)]
    · -- it comes behind
      have hij := anc_lt hd j i ha
      have hLj : L j = false := by
        cases hLj : L j with
        | false => rfl
        | true => have := anc_in hd hc _ _ hLj ha; rw [hL] at this; cases this
      have e1 : (TLp (dstOf all) V T0 L n)[t]? = T0[t]? := TLp_none n fun k hk hLk he => by
        by_cases hkj : k = j
        · subst hkj; rw [hLj] at hLk; cases hLk
        · exact huniq n k hk hkj he
      have e2 : (TLp (dstOf all) V T0 (fun _ => true) i)[t]? = T0[t]? := TLp_none i fun k hk _ he => by
        by_cases hkj : k = j
        · omega
        · exact huniq i k hk hkj he
      rw [e1, e2]
  · have hno : ∀ k, k ≠ i → dstOf all k ≠ some t := by
      intro k hki he
      unfold dstOf at he
      cases hk : all[k]? with
      | none => rw [hk] at he; cases he
      | some ok =>
        rw [hk] at he
        exact hex ⟨k, ok, hk, hki, he⟩
    have e1 : (TLp (dstOf all) V T0 L n)[t]? = T0[t]? := TLp_none n fun k hk hLk => hno k (fun e => by subst e; rw [hL] at hLk; cases hLk)
    have e2 : (TLp (dstOf all) V T0 (fun _ => true) i)[t]? = T0[t]? := TLp_none i fun k hk _ => hno k (by omega)
    rw [e1, e2]

theorem valOf_same {i : Nat} {o : Oper} {T T' : List AV} (ht : ∀ t, t ∈ looks all o → T[t]? = T'[t]?) : valOf E callS h all i o T = valOf E callS h all i o T' := by
  have hw : wantedA all o T = wantedA all o T' := by
    unfold wantedA
    cases hg : o.guard with
    | none => rfl
    | some p =>
      obtain ⟨j, want⟩ := p
      simp only
      cases hj : (all[j]?).bind (·.dst) with
      | none => rfl
      | some d =>
        simp only
        rw [ht d (by simp [looks, hg, hj])]
  have he : evStill E callS h (E.opd T) o.op = evStill E callS h (E.opd T') o.op := evStill_congr fun x hx => by
    cases x with
    | tmp t =>
      have := ht t (List.mem_append_left _ (List.mem_filterMap.2 ⟨.tmp t, hx, rfl⟩))
      simp [Env.opd, List.getD_eq_getElem?_getD, this]
    | const v => rfl
    | global g => rfl
    | func f => rfl
  unfold valOf
  rw [hw, he]
end

/-! ### Counting what is left -/
def unl (listed : Array Bool) : Nat → Nat
  | 0 => 0
  | m + 1 => unl listed m + if listed.getD m false then 0 else 1

theorem unl_zero {listed : Array Bool} : ∀ {m : Nat}, unl listed m = 0 → ∀ i, i < m → listed.getD i false = true
  | 0, _, i, hi => by omega
  | m + 1, h, i, hi => by
    simp only [unl] at h
    by_cases him : i = m
    · subst him
      cases hl : listed.getD i false with
      | true => rfl
      | false => rw [hl] at h; simp at h
    · exact unl_zero (Nat.add_eq_zero_iff.1 h).1 i (by omega)

theorem getD_set {listed : Array Bool} {i j : Nat} (hi : i < listed.size) : (listed.setIfInBounds i true).getD j false = if j = i then true else listed.getD j false := by
  by_cases h : j = i
  · subst h; simp [Array.getD_eq_getD_getElem?, hi]
  · simp [Array.getD_eq_getD_getElem?, h, Array.getElem?_setIfInBounds_ne (Ne.symm h)]

theorem unl_set {listed : Array Bool} {i : Nat} (hi : i < listed.size) (hl : listed.getD i false = false) : ∀ m, (m ≤ i → unl (listed.setIfInBounds i true) m = unl listed m) ∧ (i < m → unl (listed.setIfInBounds i true) m + 1 = unl listed m)
  | 0 => ⟨fun _ => rfl, fun h => by omega⟩
  | m + 1 => by
    obtain ⟨h1, h2⟩ := unl_set hi hl m
    refine ⟨fun h => ?_, fun h => ?_⟩
    · simp only [unl]
      rw [h1 (by omega), getD_set hi, if_neg (show ¬ m = i by omega)]
    · simp only [unl]
      rw [getD_set hi]
      by_cases him : m = i
      · subst him
        rw [h1 (Nat.le_refl _), if_pos rfl, hl]; simp
      · rw [if_neg him]
        have := h2 (by omega)
        omega

end Go.Eng
