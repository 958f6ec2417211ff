/- ENGINE G3. A region whose order is open: every order. -/
import Derived.Test.YtjebekbdjlooiaaEngG2
namespace Go.Eng

def litAV (all : Array Oper) (k : Nat) (v : AV) : AV := if isGuard all k then (match v with | .bool b => .blit b | v => v) else v

theorem litAV_rep {X : Ctx} {all : Array Oper} {k : Nat} {v : AV} {u : Value} (h : Rep X v u) : Rep X (litAV all k v) u := by
  unfold litAV
  split
  · cases h with
    | bool b => exact .blit b
    | undef => exact .undef _
    | skip => exact .skip
    | yld => exact .yld
    | blit b => exact .blit b
    | ilit k n => exact .ilit k n
    | int k n => exact .int k n
    | str s => exact .str s
    | nilp => exact .nilp
    | ptr b off n h1 h2 => exact .ptr b off n h1 h2
    | eptr sh l i off a h1 h2 h3 h4 => exact .eptr sh l i off a h1 h2 h3 h4
    | mnil sh l i off => exact .mnil sh l i off
    | mptr sh l i off a h1 h2 h3 h4 => exact .mptr sh l i off a h1 h2 h3 h4
    | vptr b i off n k h1 h2 h3 => exact .vptr b i off n k h1 h2 h3
    | vsub b i n k m c h1 h2 h3 => exact .vsub b i n k m c h1 h2 h3
    | aptr b o i n h1 h2 h3 => exact .aptr b o i n h1 h2 h3
    | asub b o N i m n k c h1 h2 h3 h4 h5 h6 => exact .asub b o N i m n k c h1 h2 h3 h4 h5 h6
    | nils => exact .nils
    | imm sh l _ h => exact .imm sh l _ h
    | vec b p n c h1 h2 => exact .vec b p n c h1 h2
    | nilf => exact .nilf
    | fn f a b c d h1 h2 => exact .fn f a b c d h1 h2
    | agg cs vs h => exact .agg cs vs h
    | tuple cs vs h => exact .tuple cs vs h
    | bagg cs k n l vs h hl => exact .bagg cs k n l vs h hl
  · exact h

theorem litSt_put {all : Array Oper} {k : Nat} {o : Oper} {st st' : St} {v : AV} (h : (litSt all k o { st with t := putT st.t o.dst v }).run = some st') :
    st' = { st with t := putT st.t o.dst (litAV all k v) } := by
  unfold litSt at h
  unfold litAV
  by_cases hg : isGuard all k = true
  · rw [if_pos hg] at h ⊢
    cases hd : o.dst with
    | none => rw [hd] at h; cases h; rfl
    | some d =>
      rw [hd] at h
      simp only [putT] at h ⊢
      rcases Nat.lt_or_ge d st.t.length with hlt | hge
      · rw [List.getElem?_set_self hlt] at h
        cases v <;> simp only at h <;> try (cases h; rfl)
        rename_i b
        cases b <;> (cases h; simp [List.set_set])
      · rw [List.set_eq_of_length_le hge] at h
        rw [List.getElem?_eq_none hge] at h
        cases h
        rw [List.set_eq_of_length_le hge]
  · rw [if_neg hg] at h ⊢
    cases h; rfl

/-- the value of operation number i, in a state of the temporaries -/
def valOf (E : Env) (callS : CallS) (h : List Blk) (all : Array Oper) (i : Nat) (o : Oper) (T : List AV) : Option AV :=
  match wantedA all o T with
  | some true => ((evStill E callS h (E.opd T) o.op).run).map (litAV all i)
  | some false => some .skip
  | none => none

def foldV (V : Nat → AV) : Nat → List Oper → List AV → List AV
  | _, [], t => t
  | k, o :: rest, t => foldV V (k + 1) rest (putT t o.dst (V k))

theorem foldV_congr {V W : Nat → AV} : ∀ (l : List Oper) (k : Nat) (t : List AV), (∀ j, k ≤ j → V j = W j) → foldV V k l t = foldV W k l t
  | [], _, _, _ => rfl
  | o :: l, k, t, h => by
    simp only [foldV]
    rw [h k (Nat.le_refl _)]
    exact foldV_congr l (k + 1) _ fun j hj => h j (by omega)

theorem evStillOps_vals {E : Env} {callS : CallS} {all : Array Oper} : ∀ (l : List Oper) (k : Nat) (st st' : St), (evStillOps E callS all k l st).run = some st' →
    ∃ V : Nat → AV, st' = { st with t := foldV V k l st.t } ∧ ∀ j o, l[j]? = some o → valOf E callS st.h all (k + j) o (foldV V k (l.take j) st.t) = some (V (k + j))
  | [], k, st, st', h => by
    simp only [evStillOps, Tree.run, Option.some.injEq] at h
    subst h
    exact ⟨fun _ => .undef, rfl, fun j o hj => by simp at hj⟩
  | o :: rest, k, st, st', h => by
    have fin : ∀ (v : AV), valOf E callS st.h all k o st.t = some v → (evStillOps E callS all (k + 1) rest { st with t := putT st.t o.dst v }).run = some st' →
        ∃ V : Nat → AV, st' = { st with t := foldV V k (o :: rest) st.t } ∧ ∀ j o', (o :: rest)[j]? = some o' → valOf E callS st.h all (k + j) o' (foldV V k ((o :: rest).take j) st.t) = some (V (k + j)) := by
      intro v hv hr
      obtain ⟨V, h1, h2⟩ := evStillOps_vals rest (k + 1) _ st' hr
      refine ⟨fun j => if j = k then v else V j, ?_, fun j o' hj => ?_⟩
      · rw [h1]
        simp only [foldV, if_true]
        rw [foldV_congr (V := fun j => if j = k then v else V j) (W := V) rest (k + 1) _ fun j hj => if_neg (by omega)]
      · cases j with
        | zero => simp at hj; subst hj; simpa [foldV] using hv
        | succ j =>
          have := h2 j o' (by simpa using hj)
          simp only [List.take_succ_cons, foldV, if_true]
          rw [show k + (j + 1) = k + 1 + j by omega, if_neg (by omega), ← this]
          rw [foldV_congr (V := fun j => if j = k then v else V j) (W := V) (rest.take j) (k + 1) _ fun j hj => if_neg (by omega)]
    simp only [evStillOps] at h
    cases hw : wantedA all o st.t with
    | none => rw [hw] at h; cases h
    | some b =>
      rw [hw] at h
      cases b with
      | true =>
        simp only at h
        obtain ⟨v, h1, h2⟩ := bind_some h
        obtain ⟨s, h3, h4⟩ := bind_some h2
        obtain rfl := litSt_put h3
        exact fin _ (by simp [valOf, hw, h1]) h4
      | false =>
        simp only at h
        exact fin .skip (by simp [valOf, hw]) h

/-! ### States of the temporaries -/
section
variable (dst : Nat → Option Tmp) (V : Nat → AV) (T0 : List AV)

def TLp (L : Nat → Bool) : Nat → List AV
  | 0 => T0
  | m + 1 => if L m then putT (TLp L m) (dst m) (V m) else TLp L m

variable {dst V T0}
theorem putT_length (t : List AV) (d : Option Tmp) (v : AV) : (putT t d v).length = t.length := by cases d <;> simp [putT]
theorem TLp_length (L : Nat → Bool) : ∀ m, (TLp dst V T0 L m).length = T0.length
  | 0 => rfl
  | m + 1 => by simp only [TLp]; split <;> simp [putT_length, TLp_length L m]

theorem TLp_none {L : Nat → Bool} {t : Tmp} : ∀ m, (∀ j, j < m → L j = true → dst j ≠ some t) → (TLp dst V T0 L m)[t]? = T0[t]?
  | 0, _ => rfl
  | m + 1, h => by
    simp only [TLp]
    split
    · rename_i hl
      have := h m (Nat.lt_succ_self m) hl
      cases hd : dst m with
      | none => exact TLp_none m fun j hj => h j (by omega)
      | some d =>
        rw [hd] at this
        simp only [putT]
        rw [List.getElem?_set_ne (fun e => this (by rw [e]))]
        exact TLp_none m fun j hj => h j (by omega)
    · exact TLp_none m fun j hj => h j (by omega)

theorem TLp_some {L : Nat → Bool} {t : Tmp} {j : Nat} (hj : L j = true) (hd : dst j = some t) : ∀ m, j < m → (∀ k, k < m → k ≠ j → dst k ≠ some t) →
    (TLp dst V T0 L m)[t]? = if t < T0.length then some (V j) else none
  | 0, h, _ => by omega
  | m + 1, h, hu => by
    by_cases hm : j = m
    · subst hm
      simp only [TLp, hj, if_true, hd, putT]
      rw [List.getElem?_set]
      simp [TLp_length]
    · simp only [TLp]
      split
      · have := hu m (Nat.lt_succ_self m) (fun e => hm e.symm)
        cases hdm : dst m with
        | none => exact TLp_some hj hd m (by omega) fun k hk => hu k (by omega)
        | some d =>
          rw [hdm] at this
          simp only [putT]
          rw [List.getElem?_set_ne (fun e => this (by rw [e]))]
          exact TLp_some hj hd m (by omega) fun k hk => hu k (by omega)
      · exact TLp_some hj hd m (by omega) fun k hk => hu k (by omega)

theorem TLp_set {L : Nat → Bool} {i n : Nat} (hi : i < n) (hL : L i = false) (hu : ∀ k, k < n → k ≠ i → ∀ t, dst i = some t → dst k ≠ some t) :
    TLp dst V T0 (fun j => if j = i then true else L j) n = putT (TLp dst V T0 L n) (dst i) (V i) := by
  apply List.ext_getElem?
  intro t
  cases hd : dst i with
  | none =>
    simp only [putT]
    by_cases hex : ∃ j, j < n ∧ L j = true ∧ dst j = some t
    · -- the same lists, built the same way
      clear hex
      have : ∀ m, m ≤ n → TLp dst V T0 (fun j => if j = i then true else L j) m = TLp dst V T0 L m := by
        intro m
        induction m with
        | zero => intro _; rfl
        | succ m ih =>
          intro hm
          simp only [TLp]
          by_cases hmi : m = i
          · subst hmi; rw [ih (by omega)]; simp [hL, hd, putT]
          · rw [ih (by omega)]; simp [hmi]
      rw [this n (Nat.le_refl _)]
    · have h1 : ∀ j, j < n → L j = true → dst j ≠ some t := fun j hj hl he => hex ⟨j, hj, hl, he⟩
      rw [TLp_none n h1]
      refine TLp_none n fun j hj hl he => ?_
      by_cases hji : j = i
      · subst hji; rw [hd] at he; cases he
      · simp [hji] at hl; exact h1 j hj hl he
  | some d =>
    simp only [putT]
    by_cases htd : t = d
    · subst htd
      rw [TLp_some (j := i) (by simp) hd n hi (fun k hk hki => hu k hk hki t hd), List.getElem?_set]
      simp [TLp_length]
    · rw [List.getElem?_set_ne (fun e => htd e.symm)]
      have : ∀ m, m ≤ n → (TLp dst V T0 (fun j => if j = i then true else L j) m)[t]? = (TLp dst V T0 L m)[t]? := by
        intro m
        induction m with
        | zero => intro _; rfl
        | succ m ih =>
          intro hm
          simp only [TLp]
          by_cases hmi : m = i
          · subst hmi
            simp only [if_true, hL, Bool.false_eq_true, if_false, hd, putT]
            rw [List.getElem?_set_ne (fun e => htd e.symm)]
            exact ih (by omega)
          · simp only [hmi, if_false]
            split
            · cases hdm : dst m with
              | none => exact ih (by omega)
              | some d' =>
                simp only [putT, List.getElem?_set]
                rw [TLp_length, TLp_length, ih (by omega)]
            · exact ih (by omega)
      exact this n (Nat.le_refl _)
end

theorem TLp_fold {V : Nat → AV} {l : List Oper} {T0 : List AV} : ∀ j, j ≤ l.length → TLp (fun i => (l[i]?).bind (·.dst)) V T0 (fun _ => true) j = foldV V 0 (l.take j) T0 := by
  have app : ∀ (l : List Oper) (o : Oper) (k : Nat) (t : List AV), foldV V k (l ++ [o]) t = putT (foldV V k l t) o.dst (V (k + l.length)) := by
    intro l
    induction l with
    | nil => intro o k t; simp [foldV]
    | cons a l ih => intro o k t; simp only [List.cons_append, foldV, ih]; congr 2; simp; omega
  intro j
  induction j with
  | zero => intro _; simp [TLp, foldV]
  | succ j ih =>
    intro hj
    have hlt : j < l.length := by omega
    have ht : l.take (j + 1) = l.take j ++ [l[j]] := by rw [List.take_succ_eq_append_getElem hlt]
    rw [ht, app, ← ih (by omega)]
    simp only [TLp, if_true]
    rw [List.getElem?_eq_getElem hlt]
    simp only [Option.bind_some]
    congr 2
    simp; omega

end Go.Eng
