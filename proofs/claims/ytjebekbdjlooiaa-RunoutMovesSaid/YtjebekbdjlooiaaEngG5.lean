/- ENGINE G5. Every order of an open region. -/
import Derived.Test.YtjebekbdjlooiaaEngG4
import Derived.Test.YtjebekbdjlooiaaEngG6
import Derived.Orders
namespace Go.Eng

theorem stL {all : Array Oper} {V : Nat → AV} {T0 : List AV} {L L' : Nat → Bool} : ∀ n, (∀ j, j < n → L j = L' j) → TLp (dstOf all) V T0 L n = TLp (dstOf all) V T0 L' n
  | 0, _ => rfl
  | n + 1, h => by
    simp only [TLp]
    rw [h n (Nat.lt_succ_self n), stL n fun j hj => h j (by omega)]

theorem ready_nil {all : Array Oper} (hd : DrawOk all) {listed : Array Bool} (hsz : listed.size = all.size) (h : Region.ready .any all listed = []) : ∀ i, i < all.size → listed.getD i false = true := by
  intro i
  induction i using Nat.strongRecOn with
  | _ i ih =>
    intro hi
    cases hl : listed.getD i false with
    | true => rfl
    | false =>
      have ho : all[i]? = some all[i] := Array.getElem?_eq_getElem hi
      have : i ∈ Region.ready .any all listed := by
        rw [mem_ready]
        refine ⟨?_, all[i], ho, fun e he hb => ?_⟩
        · have hi' : i < listed.size := by omega
          simpa [Array.getD_eq_getD_getElem?, hi'] using hl
        · have hlt := hd.edge i _ ho e (by simpa using he) hb
          exact ih e.on hlt (by omega)
      rw [h] at this; cases this

theorem closed_set {all : Array Oper} {listed : Array Bool} {i : Nat} {o : Oper} (hsz : listed.size = all.size) (ho : all[i]? = some o) (hc : Closed all fun j => listed.getD j false)
    (hedge : ∀ e, e ∈ o.after.toList → Region.binds .any e = true → listed.getD e.on false = true) : Closed all fun j => (listed.setIfInBounds i true).getD j false := by
  have hi : i < listed.size := by rw [hsz]; exact (Array.getElem?_eq_some_iff.1 ho).1
  intro j oj hj hL e he hb
  show (listed.setIfInBounds i true).getD e.on false = true
  rw [getD_set hi]
  split
  · rfl
  · by_cases hji : j = i
    · subst hji
      rw [ho] at hj; cases hj
      exact hedge e he hb
    · have hL' : (listed.setIfInBounds i true).getD j false = true := hL
      rw [getD_set hi, if_neg hji] at hL'
      exact hc j oj hj hL' e he hb

/-- what the operations yield in index order, one of which may make a block -/
theorem evStillOpsG_vals {E : Env} {callS : CallS} {all : Array Oper} : ∀ (l : List Oper) (i : Nat) (nb : Option (List Blk)) (st : St) (r : St × Option (List Blk)), (evStillOpsG E callS all i l nb st).run = some r →
    ∃ V : Nat → AV, r.1 = { st with t := foldV V i l st.t } ∧
      ((r.2 = nb ∧ ∀ j o, l[j]? = some o → valOf E callS st.h all (i + j) o (foldV V i (l.take j) st.t) = some (V (i + j))) ∨
       (nb = none ∧ ∃ k o z, l[k]? = some o ∧ isEff o.op = true ∧ o.guard = none ∧ r.2 = some z ∧ (evEff E all (i + k) st.h (E.opd (foldV V i (l.take k) st.t)) o.op).run = some (V (i + k), z) ∧
          ∀ j o, l[j]? = some o → j ≠ k → valOf E callS st.h all (i + j) o (foldV V i (l.take j) st.t) = some (V (i + j))))
  | [], i, nb, st, r, h => by
    simp only [evStillOpsG, Tree.run, Option.some.injEq] at h
    subst h
    exact ⟨fun _ => .undef, rfl, .inl ⟨rfl, fun j o hj => by simp at hj⟩⟩
  | o :: rest, i, nb, st, r, h => by
    have sh : ∀ (v : AV) (V : Nat → AV) (j : Nat), foldV (fun j => if j = i then v else V j) i ((o :: rest).take (j + 1)) st.t = foldV V (i + 1) (rest.take j) (putT st.t o.dst v) := by
      intro v V j
      simp only [List.take_succ_cons, foldV, if_true]
      rw [foldV_congr (V := fun j => if j = i then v else V j) (W := V) (rest.take j) (i + 1) _ fun j hj => if_neg (by omega)]
    have shA : ∀ (v : AV) (V : Nat → AV), foldV (fun j => if j = i then v else V j) i (o :: rest) st.t = foldV V (i + 1) rest (putT st.t o.dst v) := by
      intro v V
      simp only [foldV, if_true]
      rw [foldV_congr (V := fun j => if j = i then v else V j) (W := V) rest (i + 1) _ fun j hj => if_neg (by omega)]
    have fin : ∀ (v : AV), valOf E callS st.h all i o st.t = some v → (evStillOpsG E callS all (i + 1) rest nb { st with t := putT st.t o.dst v }).run = some r →
        ∃ V : Nat → AV, r.1 = { st with t := foldV V i (o :: rest) st.t } ∧
      ((r.2 = nb ∧ ∀ j o', (o :: rest)[j]? = some o' → valOf E callS st.h all (i + j) o' (foldV V i ((o :: rest).take j) st.t) = some (V (i + j))) ∨
       (nb = none ∧ ∃ k o' z, (o :: rest)[k]? = some o' ∧ isEff o'.op = true ∧ o'.guard = none ∧ r.2 = some z ∧ (evEff E all (i + k) st.h (E.opd (foldV V i ((o :: rest).take k) st.t)) o'.op).run = some (V (i + k), z) ∧
          ∀ j o', (o :: rest)[j]? = some o' → j ≠ k → valOf E callS st.h all (i + j) o' (foldV V i ((o :: rest).take j) st.t) = some (V (i + j)))) := by
      intro v hv hr
      obtain ⟨V, h1, h2⟩ := evStillOpsG_vals rest (i + 1) nb _ r hr
      refine ⟨fun j => if j = i then v else V j, by rw [h1, shA], ?_⟩
      have one : ∀ (Q : Nat → Prop), (∀ j o', rest[j]? = some o' → Q j → valOf E callS st.h all (i + 1 + j) o' (foldV V (i + 1) (rest.take j) (putT st.t o.dst v)) = some (V (i + 1 + j))) →
          ∀ j o', (o :: rest)[j]? = some o' → (∀ j', j = j' + 1 → Q j') → valOf E callS st.h all (i + j) o' (foldV (fun j => if j = i then v else V j) i ((o :: rest).take j) st.t) = some ((fun j => if j = i then v else V j) (i + j)) := by
        intro Q hQ j o' hj hjQ
        cases j with
        | zero => simp at hj; subst hj; simpa [foldV] using hv
        | succ j =>
          have := hQ j o' (by simpa using hj) (hjQ j rfl)
          rw [sh]
          simp only
          rw [show i + (j + 1) = i + 1 + j by omega, if_neg (by omega)]
          exact this
      rcases h2 with ⟨e1, e2⟩ | ⟨e0, k, o', z, q1, q2, q3, q4, q5, q6⟩
      · exact .inl ⟨e1, fun j o' hj => one (fun _ => True) (fun j o' hj _ => e2 j o' hj) j o' hj fun _ _ => trivial⟩
      · refine .inr ⟨e0, k + 1, o', z, by simpa using q1, q2, q3, q4, ?_, fun j o' hj hjk => one (fun j => j ≠ k) q6 j o' hj fun j' e => by omega⟩
        rw [sh]
        simp only
        rw [show i + (k + 1) = i + 1 + k by omega, if_neg (by omega)]
        exact q5
    simp only [evStillOpsG] at h
    cases hw : wantedA all o st.t with
    | none => rw [hw] at h; cases h
    | some b =>
      rw [hw] at h
      cases b with
      | true =>
        simp only at h
        cases hg : isEff o.op with
        | true =>
          rw [hg] at h
          simp only at h
          split at h
          · rename_i hgu
            obtain ⟨q, h1, h2⟩ := bind_some h
            obtain ⟨v, z⟩ := q
            obtain ⟨V, e1, e2⟩ := evStillOpsG_vals rest (i + 1) (some z) _ r h2
            refine ⟨fun j => if j = i then v else V j, by rw [e1, shA], .inr ⟨rfl, 0, o, z, rfl, hg, hgu, ?_, by simpa [foldV] using h1, ?_⟩⟩
            · rcases e2 with ⟨e2, _⟩ | ⟨e0, _⟩
              · exact e2
              · cases e0
            · intro j o' hj hj0
              rcases e2 with ⟨_, e2⟩ | ⟨e0, _⟩
              · cases j with
                | zero => exact absurd rfl hj0
                | succ j =>
                  have := e2 j o' (by simpa using hj)
                  rw [sh]
                  simp only
                  rw [show i + (j + 1) = i + 1 + j by omega, if_neg (by omega)]
                  exact this
              · cases e0
          · cases h
        | false =>
          rw [hg] at h
          simp only at h
          obtain ⟨v, h1, h2⟩ := bind_some h
          obtain ⟨s, h3, h4⟩ := bind_some h2
          obtain rfl := litSt_put h3
          exact fin _ (by simp [valOf, hw, h1]) h4
      | false =>
        simp only at h
        exact fin .skip (by simp [valOf, hw]) h

theorem evEff_congr {E : Env} {all : Array Oper} {k : Nat} {h : List Blk} {f g : Operand → AV} {op : Op} (hfg : ∀ x ∈ op.operands.toList, f x = g x) : evEff E all k h f op = evEff E all k h g op := by
  unfold evEff
  cases hs : isStore op with
  | true =>
    cases op <;> first | (cases hs; done) | skip
    rename_i t x y
    have e : evOp E h f (.store t x y) = evOp E h g (.store t x y) := by
      unfold evOp
      simp only
      rw [hfg x (by simp [Op.operands]), hfg y (by simp [Op.operands])]
    simp only [e]
  | false => simp only; rw [evGrow_congr hfg]
theorem evEff_op {E : Env} {all : Array Oper} {k : Nat} {h h2 : List Blk} {ev : Operand → AV} {op : Op} {v : AV} (hr : (evEff E all k h ev op).run = some (v, h2)) : (evOp E h ev op).run = some (v, h2, none) ∧ ∀ c, op ≠ .defer c := by
  unfold evEff at hr
  cases hs : isStore op with
  | true =>
    rw [hs] at hr
    simp only at hr
    cases hl : lateOk all k with
    | false => rw [hl] at hr; cases hr
    | true =>
      rw [hl] at hr
      obtain ⟨r, h1, h3⟩ := bind_some hr
      refine ⟨?_, fun c hc => by subst hc; cases hs⟩
      split at h3
      · rename_i hn
        simp only [Tree.run, Option.some.injEq, Prod.mk.injEq] at h3
        rw [h1]
        obtain ⟨r1, r2, r3⟩ := r
        simp only at hn h3
        rw [hn, h3.1, h3.2]
      · cases h3
  | false =>
    rw [hs] at hr
    obtain ⟨r, h1, h3⟩ := bind_some hr
    simp only [Tree.run, Option.some.injEq, Prod.mk.injEq] at h3
    obtain ⟨r1, r2⟩ := r
    obtain ⟨g1, _, _⟩ := evGrow_op h1
    simp only at h3
    obtain ⟨rfl, rfl⟩ := h3
    exact ⟨g1, fun c hc => by subst hc; simp [evGrow, Tree.run] at h1⟩
theorem blind_same {E : Env} {callS callS' : CallS} {h h' : List Blk} {ev : Operand → AV} {op : Op} {v : AV} (hb : blind op = true) (hr : (evStill E callS h ev op).run = some v) : (evStill E callS' h' ev op).run = some v := by
  cases op <;> first | (cases hb; done) | skip
  case move x => exact hr
  case assign x => exact hr
  case extract x i =>
    simp only [evStill, stillOp, if_true, evOp] at hr ⊢
    cases hx : ev x <;> rw [hx] at hr <;> simp only at hr ⊢ <;> first | (cases hr; done) | skip
    rename_i vs
    cases hi : vs[i]? <;> rw [hi] at hr <;> simp only at hr ⊢ <;> first | (cases hr; done) | exact hr
theorem evEff_mono {E : Env} {callS : List Blk → CallS} (hmo : StillMono callS) {all : Array Oper} {k : Nat} {h h2 : List Blk} {ev' : Operand → AV} {op' : Op} {v' : AV} (hg : (evEff E all k h ev' op').run = some (v', h2))
    {i : Nat} (hanc : ¬ ((ancOf all.toList).getD k 0).testBit i = true) {o : Oper} (ho : all[i]? = some o) (hik : i ≠ k) {ev : Operand → AV} {av : AV} (hr : (evStill E (callS h) h ev o.op).run = some av) : (evStill E (callS h2) h2 ev o.op).run = some av := by
  have hg0 := hg
  unfold evEff at hg
  cases hs : isStore op' with
  | true =>
    rw [hs] at hg
    simp only at hg
    cases hl : lateOk all k with
    | false => rw [hl] at hg; cases hg
    | true =>
      unfold lateOk at hl
      rw [List.all_eq_true] at hl
      have := hl i (List.mem_range.2 (by simpa using (Array.getElem?_eq_some_iff.1 ho).1))
      simp only [Bool.or_eq_true, beq_iff_eq] at this
      rcases this with (h1 | h1) | h1
      · exact absurd h1 hik
      · exact absurd h1 hanc
      · rw [ho] at h1; exact blind_same h1 hr
  | false =>
    rw [hs] at hg
    obtain ⟨r, h1, h3⟩ := bind_some hg
    simp only [Tree.run, Option.some.injEq, Prod.mk.injEq] at h3
    obtain ⟨r1, r2⟩ := r
    simp only at h3
    obtain ⟨rfl, rfl⟩ := h3
    exact evStill_mono hmo (evGrow_op h1).2.1 hr

section
variable {E : Env} {P : Program} {callS : List Blk → CallS} {B : Base} {all : Array Oper} {V : Nat → AV} {T0 : List AV} {h : List Blk} {fs : List (List AV)} {pd : Option Ex} {Q : Exit → Act → World → Prop} {n0 : Nat}

theorem any_sound (hE : E.tok P) (hc : StillOK E P callS) (hmo : StillMono callS) (hd : DrawOk all) {m k : Nat} {h2 : List Blk}
    (hk : ∀ o, all[k]? = some o → k < m → o.guard = none ∧ (evEff E all k h (E.opd (TLp (dstOf all) V T0 (fun _ => true) k)) o.op).run = some (V k, h2)) (hnb : m ≤ k → h2 = h) (hms : m ≤ all.size)
    (hV : ∀ i o, all[i]? = some o → i < m → i ≠ k → valOf E (callS h) h all i o (TLp (dstOf all) V T0 (fun _ => true) i) = some (V i))
    (hq : all.size ≤ m → ∀ X a, Sim E B X { t := TLp (dstOf all) V T0 (fun _ => true) all.size, fs := fs, pend := pd, h := h2 } a → Q .normal a X.w)
    (hlast : ∀ i fuel listed X a, i < all.size → m ≤ i → listed.size = all.size → i ∈ Region.ready .any all listed → Closed all (fun j => listed.getD j false) → (∀ j, m ≤ j → j < all.size → listed.getD j false = false) →
      Sim E B X { t := TLp (dstOf all) V T0 (fun j => listed.getD j false) all.size, fs := fs, pend := pd, h := (if listed.getD k false = true then h2 else h) } a →
      unl listed all.size ≤ fuel + 1 → wpOpIn (wideR B.ro) n0 P all Q i (wpAnyIn (wideR B.ro) n0 P .any all Q fuel (listed.setIfInBounds i true)) a X.w) :
    ∀ (fuel : Nat) (listed : Array Bool) (X : Ctx) (a : Act), listed.size = all.size → Closed all (fun j => listed.getD j false) → (∀ i, m ≤ i → i < all.size → listed.getD i false = false) →
      unl listed all.size ≤ fuel → Sim E B X { t := TLp (dstOf all) V T0 (fun j => listed.getD j false) all.size, fs := fs, pend := pd, h := (if listed.getD k false = true then h2 else h) } a → wpAnyIn (wideR B.ro) n0 P .any all Q fuel listed a X.w := by
  intro fuel
  have fin : ∀ (listed : Array Bool) (X : Ctx) (a : Act), listed.size = all.size → (∀ i, m ≤ i → i < all.size → listed.getD i false = false) → Region.ready .any all listed = [] →
      Sim E B X { t := TLp (dstOf all) V T0 (fun j => listed.getD j false) all.size, fs := fs, pend := pd, h := (if listed.getD k false = true then h2 else h) } a → Q .normal a X.w := by
    intro listed X a hsz hm hr hs
    have hall := ready_nil hd hsz hr
    rw [stL (L' := fun _ => true) all.size fun j hj => hall j hj] at hs
    rcases Nat.lt_or_ge m all.size with hlt | hge
    · have := hm m (Nat.le_refl _) hlt
      rw [hall m hlt] at this; cases this
    · have e : (if listed.getD k false = true then h2 else h) = h2 := by
        rcases Nat.lt_or_ge k all.size with hks | hks
        · rw [hall k hks]; simp
        · rw [hnb (by omega)]; simp
      rw [e] at hs
      exact hq hge X a hs
  induction fuel with
  | zero =>
    intro listed X a hsz hcl hm hu hs
    have hr : Region.ready .any all listed = [] := by
      apply List.eq_nil_iff_forall_not_mem.2
      intro j hj
      rw [mem_ready] at hj
      obtain ⟨h1, o, h2, _⟩ := hj
      have hj' := (Array.getElem?_eq_some_iff.1 h2).1
      have := unl_zero (listed := listed) (Nat.le_zero.1 hu) j hj'
      have hj2 : j < listed.size := by omega
      simp [Array.getD_eq_getD_getElem?, hj2] at this h1
      rw [this] at h1; cases h1
    exact ⟨hr, fin listed X a hsz hm hr hs⟩
  | succ fuel ih =>
    intro listed X a hsz hcl hm hu hs
    refine ⟨fun hr => fin listed X a hsz hm hr hs, fun i hi => ?_⟩
    have hri := hi
    rw [mem_ready] at hi
    obtain ⟨h1, o, ho, hedge⟩ := hi
    have hin := (Array.getElem?_eq_some_iff.1 ho).1
    have hil : i < listed.size := by omega
    have hLi : listed.getD i false = false := by simpa [Array.getD_eq_getD_getElem?, hil] using h1
    have hedge' : ∀ e, e ∈ o.after.toList → Region.binds .any e = true → listed.getD e.on false = true := fun e he hb => hedge e (by simpa using he) hb
    rcases Nat.lt_or_ge i m with him | him
    · have hv := hV i o ho him
      have hsame : ∀ t, t ∈ looks all o → (TLp (dstOf all) V T0 (fun j => listed.getD j false) all.size)[t]? = (TLp (dstOf all) V T0 (fun _ => true) i)[t]? := fun t ht =>
        same_at hd hcl ho (Nat.le_of_lt hin) hLi hedge' ht
      have hcl' := closed_set hsz ho hcl hedge'
      have hun : unl (listed.setIfInBounds i true) all.size ≤ fuel := by
        have := (unl_set hil hLi all.size).2 hin; omega
      have hdi : dstOf all i = o.dst := by simp [dstOf, ho]
      have hget : ∀ j, (listed.setIfInBounds i true).getD j false = if j = i then true else listed.getD j false := fun j => getD_set hil
      have hnext : ∀ (X' : Ctx) (u : Value), Sim E B X' { t := TLp (dstOf all) V T0 (fun j => listed.getD j false) all.size, fs := fs, pend := pd, h := (if (listed.setIfInBounds i true).getD k false = true then h2 else h) } a → Rep X' (V i) u →
          wpAnyIn (wideR B.ro) n0 P .any all Q fuel (listed.setIfInBounds i true) (a.put o.dst u) X'.w := by
        intro X' u hs' hu'
        refine ih _ X' _ (by simp [hsz]) hcl' ?_ hun ?_
        · intro k hk1 hk2
          rw [getD_set hil, if_neg (by omega)]
          exact hm k hk1 hk2
        · have hput := hs'.put hu' o.dst
          have hT : TLp (dstOf all) V T0 (fun j => (listed.setIfInBounds i true).getD j false) all.size = putT (TLp (dstOf all) V T0 (fun j => listed.getD j false) all.size) o.dst (V i) := by
            rw [← hdi, ← TLp_set hin hLi]
            · exact stL all.size fun j _ => getD_set hil
            · intro k hk hki t ht he
              cases hk' : all[k]? with
              | none => simp [dstOf, hk'] at he
              | some ok =>
                simp only [dstOf, hk', Option.bind_some] at he
                rw [hdi] at ht
                exact (hd.dst i k o ok ho hk' hki t he).1 ht
          rw [hT]
          exact hput
      unfold wpOpIn
      rw [ho]
      simp only
      by_cases hik : i = k
      · -- the new block
        subst hik
        obtain ⟨hgu, hg⟩ := hk o ho him
        have hwt : wantedA all o (TLp (dstOf all) V T0 (fun j => listed.getD j false) all.size) = some true := by unfold wantedA; rw [hgu]
        have hst := hs.t
        rw [wantedA_sound hst hwt]
        simp only [if_true]
        have hsh : ({ t := TLp (dstOf all) V T0 (fun j => listed.getD j false) all.size, fs := fs, pend := pd, h := (if listed.getD i false = true then h2 else h) } : St) = { t := TLp (dstOf all) V T0 (fun j => listed.getD j false) all.size, fs := fs, pend := pd, h := h } := by
          rw [hLi]; simp
        rw [hsh] at hs
        have hcg : evEff E all i h (E.opd (TLp (dstOf all) V T0 (fun j => listed.getD j false) all.size)) o.op = evEff E all i h (E.opd (TLp (dstOf all) V T0 (fun _ => true) i)) o.op := evEff_congr (fun x hx => by
          cases x with
          | tmp t =>
            have := hsame t (List.mem_append_left _ (List.mem_filterMap.2 ⟨.tmp t, hx, rfl⟩))
            simp only [Env.opd, List.getD_eq_getElem?_getD]
            rw [this]
          | const v => rfl
          | global g => rfl
          | func f => rfl)
        rw [← hcg] at hg
        obtain ⟨hev, hnd⟩ := evEff_op hg
        obtain ⟨nx, v, X', g1, g2, g3, g4, g5⟩ := evOp_good hE hs hev
        have hs2 : Sim E B X' { t := TLp (dstOf all) V T0 (fun j => listed.getD j false) all.size, fs := fs, pend := pd, h := h2 } a := by
          have := hs.ext g5.2 g4
          rw [g5.1] at this
          exact this
        have hs3 : Sim E B X' { t := TLp (dstOf all) V T0 (fun j => listed.getD j false) all.size, fs := fs, pend := pd, h := (if (listed.setIfInBounds i true).getD i false = true then h2 else h) } a := by
          rw [hget i, if_pos rfl, if_pos rfl]; exact hs2
        refine oper_in B.ro n0 ?_ hnd
        unfold Oper.wp
        rw [g1]
        rcases g2 with rfl | ⟨rfl, rfl⟩
        · exact hnext X' _ hs3 g3
        · exact hnext X' _ hs3 g3
      · have hsame2 : (if (listed.setIfInBounds i true).getD k false = true then h2 else h) = (if listed.getD k false = true then h2 else h) := by
          rw [hget k]; simp [show ¬ k = i from fun e => hik e.symm]
        rw [hsame2] at hnext
        have hv := hV i o ho him hik
        rw [← valOf_same (E := E) (callS := callS h) (h := h) (i := i) hsame] at hv
        unfold valOf at hv
        cases hw : wantedA all o (TLp (dstOf all) V T0 (fun j => listed.getD j false) all.size) with
        | none => rw [hw] at hv; cases hv
        | some b =>
          rw [hw] at hv
          rw [wantedA_sound hs.t hw]
          cases b with
          | true =>
            simp only [if_true]
            cases hev : (evStill E (callS h) h (E.opd (TLp (dstOf all) V T0 (fun j => listed.getD j false) all.size)) o.op).run with
            | none => rw [hev] at hv; cases hv
            | some av =>
              rw [hev] at hv
              simp only [Option.map_some, Option.some.injEq] at hv
              have hev2 : (evStill E (callS (if listed.getD k false = true then h2 else h)) (if listed.getD k false = true then h2 else h) (E.opd (TLp (dstOf all) V T0 (fun j => listed.getD j false) all.size)) o.op).run = some av := by
                by_cases hLk : listed.getD k false = true
                · rw [if_pos hLk]
                  rcases Nat.lt_or_ge k m with hkm1 | hkm1
                  · rcases Nat.lt_or_ge k all.size with hks | hks
                    · obtain ⟨_, hg⟩ := hk all[k] (by simp [hks]) hkm1
                      refine evEff_mono hmo hg (fun hanc => ?_) ho hik hev
                      have := anc_in hd hcl k i hLk hanc
                      have h' : listed.getD i false = true := this
                      rw [hLi] at h'; cases h'
                    · have : listed.getD k false = false := by simp [Array.getD_eq_getD_getElem?, show listed.size ≤ k by omega]
                      rw [this] at hLk; cases hLk
                  · rw [hnb hkm1]; exact hev
                · rw [if_neg hLk]; exact hev
              refine oper_in B.ro n0 (evStill_sound hE hc hs hev2 fun X' u hs' hu' => hnext X' u hs' ?_) (fun c hc => by rw [hc] at hev2; simp [evStill, stillOp, Tree.run] at hev2)
              rw [← hv]
              exact litAV_rep hu'
          | false =>
            simp only [Option.some.injEq] at hv
            simp only [Bool.false_eq_true, if_false]
            exact ⟨fun _ _ => trivial, hnext X _ hs (by rw [← hv]; exact .skip)⟩
    · exact hlast i fuel listed X a hin him hsz hri hcl hm hs hu
end

theorem listed0 {n : Nat} (i : Nat) : (Array.replicate n false).getD i false = false := by
  rcases Nat.lt_or_ge i n with h | h <;> simp [Array.getD_eq_getD_getElem?, h]

theorem unl_le (listed : Array Bool) : ∀ n, unl listed n ≤ n
  | 0 => Nat.le_refl _
  | n + 1 => by simp only [unl]; have := unl_le listed n; split <;> omega

theorem sufAt_le (all : Array Oper) : sufAt all ≤ all.size := by
  unfold sufAt
  simp only
  cases hf : (List.range all.toList.length).find? _ with
  | none => simp
  | some m =>
    have := List.mem_of_find?_eq_some hf
    simp at this
    simp; omega
theorem sufAt_spec (all : Array Oper) {i j : Nat} (hj : sufAt all ≤ j) (hjn : j < all.size) (hij : i < j) : ((ancOf all.toList).getD j 0).testBit i = true := by
  unfold sufAt at hj
  simp only at hj
  cases hf : (List.range all.toList.length).find? (fun m => (List.range all.toList.length).all fun j => decide (j < m) || (List.range j).all fun i => ((ancOf all.toList).getD j 0).testBit i) with
  | none => rw [hf] at hj; simp at hj; omega
  | some m =>
    rw [hf] at hj
    simp only [Option.getD_some] at hj
    have h := List.find?_some hf
    rw [List.all_eq_true] at h
    have h2 := h j (List.mem_range.2 (by simpa using hjn))
    simp only [Bool.or_eq_true, decide_eq_true_eq, List.all_eq_true, List.mem_range] at h2
    rcases h2 with h2 | h2
    · omega
    · exact h2 i hij

section
variable {E : Env} {P : Program} {B : Base} {all : Array Oper} {Q : Exit → Act → World → Prop} {callH : CallH} {n0 : Nat}

/-- the operations at the end, each of which waits for all ahead of it -/
theorem suf_sound (hE : E.tok P) (hcH : CallOK E P callH B) (hd : DrawOk all) {st' : St} (hq : ∀ X' a', Sim E B X' st' a' → Q .normal a' X'.w) : ∀ (l : List Oper) (i : Nat), all.toList.drop i = l → sufAt all ≤ i →
    ∀ (fuel : Nat) (listed : Array Bool) (X : Ctx) (a : Act) (st : St), listed.size = all.size → (∀ j, j < i → j < all.size → listed.getD j false = true) → (∀ j, i ≤ j → listed.getD j false = false) → unl listed all.size ≤ fuel →
      Sim E B X st a → (evOps E callH all i l st).run = some st' → wpAnyIn (wideR B.ro) n0 P .any all Q fuel listed a X.w := by
  intro l
  induction l with
  | nil =>
    intro i hl hm fuel listed X a st hsz hlo hhi hun hs h
    simp only [evOps, Tree.run, Option.some.injEq] at h
    subst h
    have hi : all.size ≤ i := by simpa using List.drop_eq_nil_iff.1 hl
    have hr : Region.ready .any all listed = [] := by
      apply List.eq_nil_iff_forall_not_mem.2
      intro j hj
      rw [mem_ready] at hj
      obtain ⟨q1, o', q2, _⟩ := hj
      have hj' := (Array.getElem?_eq_some_iff.1 q2).1
      have hjt := hlo j (by omega) hj'
      have hj2 : j < listed.size := by omega
      rw [Array.getD_eq_getD_getElem?, Array.getElem?_eq_getElem hj2] at hjt q1
      simp only [Option.getD_some] at hjt q1
      rw [hjt] at q1; cases q1
    cases fuel with
    | zero => exact ⟨hr, hq X a hs⟩
    | succ fuel => exact ⟨fun _ => hq X a hs, fun j hj => by rw [hr] at hj; cases hj⟩
  | cons o rest ih =>
    intro i hl hm fuel listed X a st hsz hlo hhi hun hs h
    have hin : i < all.size := by
      rcases Nat.lt_or_ge i all.size with h1 | h1
      · exact h1
      · rw [List.drop_eq_nil_of_le (by simpa using h1)] at hl; cases hl
    have ho : all[i]? = some o := by
      have := List.getElem?_drop (xs := all.toList) (i := i) (j := 0)
      rw [hl] at this
      simpa using this.symm
    have hrest : all.toList.drop (i + 1) = rest := by rw [← List.drop_drop, hl]; rfl
    have hil : i < listed.size := by omega
    have hcl : Closed all fun j => listed.getD j false := by
      intro j oj hj hL e he hb
      have hj' := (Array.getElem?_eq_some_iff.1 hj).1
      have hji : j < i := by
        rcases Nat.lt_or_ge j i with h1 | h1
        · exact h1
        · have hL' : listed.getD j false = true := hL
          rw [hhi j h1] at hL'; cases hL'
      have := hd.edge j oj hj e he hb
      exact hlo e.on (by omega) (by omega)
    have hpos : 0 < unl listed all.size := by
      rcases Nat.eq_zero_or_pos (unl listed all.size) with h0 | h0
      · have := unl_zero h0 i hin
        rw [hhi i (Nat.le_refl _)] at this; cases this
      · exact h0
    obtain ⟨fuel, rfl⟩ : ∃ f, fuel = f + 1 := ⟨fuel - 1, by omega⟩
    have hLi := hhi i (Nat.le_refl _)
    have hone : ∀ j, j ∈ Region.ready .any all listed → j = i := by
      intro j hj
      rw [mem_ready] at hj
      obtain ⟨q1, oj, q2, gedge⟩ := hj
      have hj' := (Array.getElem?_eq_some_iff.1 q2).1
      have hj2 : j < listed.size := by omega
      have hLj : listed.getD j false = false := by simpa [Array.getD_eq_getD_getElem?, hj2] using q1
      rcases Nat.lt_trichotomy j i with h1 | h1 | h1
      · rw [hlo j h1 hj'] at hLj; cases hLj
      · exact h1
      · have hedge' : ∀ e, e ∈ oj.after.toList → Region.binds .any e = true → listed.getD e.on false = true := fun e he hb => gedge e (by simpa using he) hb
        have hcl' := closed_set hsz q2 hcl hedge'
        have hb' := sufAt_spec all (by omega) hj' h1
        have := anc_in hd hcl' j i (by show (listed.setIfInBounds j true).getD j false = true; rw [getD_set hj2, if_pos rfl]) hb'
        have h' : (listed.setIfInBounds j true).getD i false = true := this
        rw [getD_set hj2, if_neg (by omega), hLi] at h'
        cases h'
    refine ⟨fun hr => ?_, fun j hj => ?_⟩
    · -- something is ready
      exfalso
      have := ready_nil hd hsz hr i hin
      rw [hLi] at this; cases this
    · obtain rfl := hone j hj
      have hgo : ∀ (X'' : Ctx) (a'' : Act) (s'' : St), Sim E B X'' s'' a'' → (evOps E callH all (j + 1) rest s'').run = some st' → wpAnyIn (wideR B.ro) n0 P .any all Q fuel (listed.setIfInBounds j true) a'' X''.w := by
        intro X'' a'' s'' hs'' h''
        refine ih (j + 1) hrest (by omega) fuel _ X'' a'' s'' (by simp [hsz]) (fun k hk hk2 => ?_) (fun k hk => ?_) ?_ hs'' h''
        · rw [getD_set hil]; split
          · rfl
          · exact hlo k (by omega) hk2
        · rw [getD_set hil, if_neg (by omega)]; exact hhi k (by omega)
        · have := (unl_set hil hLi all.size).2 hin; omega
      simp only [evOps] at h
      unfold wpOpIn
      rw [ho]
      simp only
      cases hwa : wantedA all o st.t with
      | none => rw [hwa] at h; cases h
      | some b =>
        rw [hwa] at h
        rw [wantedA_sound hs.t hwa]
        cases b with
        | true =>
          simp only [if_true]
          obtain ⟨s1, k1, k2⟩ := bind_some h
          obtain ⟨s2, k3, k4⟩ := bind_some k2
          exact evStep_sound hE hcH hs k1 fun X'' a'' hs'' => hgo X'' a'' s2 (litSt_sound hs'' k3) k4
        | false =>
          simp only [Bool.false_eq_true, if_false]
          exact ⟨fun _ _ => trivial, hgo X _ (skipOp o st) (hs.put (av := .skip) .skip o.dst) h⟩
end

theorem evDraw_sound {E : Env} {P : Program} (hm : P.follows .mixedOrders = true) (hE : E.tok P) {callH : CallH} {B : Base} (hcH : CallOK E P callH B) {callS : List Blk → CallS} (hc : StillOK E P callS) (hmo : StillMono callS) {id : Nat} {all : Array Oper} {X : Ctx} {st st' : St} {a : Act}
    (hs : Sim E B X st a) (h : (evDraw E callH (callS st.h) all st).run = some st') {Q : Exit → Act → World → Prop} {n0 : Nat} (hq : ∀ X' a', Sim E B X' st' a' → Q .normal a' X'.w) : (Code.region id all true).wpIn (wideR B.ro) n0 P Q a X.w := by
  apply wpIn_region_any hm
  have hs1 := hs.drawn (X.w.drawn + 1)
  generalize hX1 : ({ X with w := { X.w with drawn := X.w.drawn + 1 } } : Ctx) = X1 at hs1
  have hw : ({ X.w with drawn := X.w.drawn + 1 } : World) = X1.w := by rw [← hX1]
  rw [hw]
  obtain ⟨T0, fs, hb, pd⟩ := st
  unfold evDraw at h
  by_cases hdb : drawB all = false
  · rw [if_pos hdb] at h; cases h
  · rw [if_neg hdb] at h
    have hd := drawB_ok (by simpa using hdb : drawB all = true)
    have start : ∀ (V : Nat → AV) (k : Nat) (nb : List Blk), Sim E B X1 { t := TLp (dstOf all) V T0 (fun j => (Array.replicate all.size false).getD j false) all.size, fs := fs, pend := pd, h := (if (Array.replicate all.size false).getD k false = true then nb else hb) } a := by
      intro V k nb
      have e0 : (if (Array.replicate all.size false).getD k false = true then nb else hb) = hb := by rw [listed0]; simp
      rw [e0]
      have : TLp (dstOf all) V T0 (fun j => (Array.replicate all.size false).getD j false) all.size = T0 := by
        have : ∀ n, TLp (dstOf all) V T0 (fun j => (Array.replicate all.size false).getD j false) n = T0 := by
          intro n
          induction n with
          | zero => rfl
          | succ n ih => simp only [TLp]; rw [if_neg (by rw [listed0]; simp), ih]
        exact this _
      rw [this]; exact hs1
    have hcl0 : Closed all fun j => (Array.replicate all.size false).getD j false := by
      intro i o _ hL
      have hL' : (Array.replicate all.size false).getD i false = true := hL
      rw [listed0] at hL'; cases hL'
    have hdst : dstOf all = fun i => (all.toList[i]?).bind (·.dst) := by funext i; simp [dstOf]
    have hsl := sufAt_le all
    obtain ⟨r, h1, h2⟩ := bind_some h
    obtain ⟨V, e1, e2⟩ := evStillOpsG_vals _ 0 none _ r h1
    simp only [Nat.zero_add] at e2
    have htk : ∀ i, i < sufAt all → (all.toList.take (sufAt all))[i]? = all[i]? := by
      intro i hi
      rw [List.getElem?_take, if_pos hi]; simp
    have hTm : ∀ i, i ≤ sufAt all → TLp (dstOf all) V T0 (fun _ => true) i = foldV V 0 ((all.toList.take (sufAt all)).take i) T0 := by
      intro i hi
      rw [hdst, TLp_fold i (by simp; omega), List.take_take, Nat.min_eq_left hi]
    obtain ⟨k, nb, hr2, hkA, hnbk, hVA⟩ : ∃ (k : Nat) (nb : List Blk), r.2.getD hb = nb ∧ (∀ o, all[k]? = some o → k < sufAt all → o.guard = none ∧ (evEff E all k hb (E.opd (TLp (dstOf all) V T0 (fun _ => true) k)) o.op).run = some (V k, nb)) ∧
        (sufAt all ≤ k → nb = hb) ∧ (∀ i o, all[i]? = some o → i < sufAt all → i ≠ k → valOf E (callS hb) hb all i o (TLp (dstOf all) V T0 (fun _ => true) i) = some (V i)) := by
      rcases e2 with ⟨q1, q2⟩ | ⟨_, k, o, z, q1, q2, q3, q4, q5, q6⟩
      · refine ⟨sufAt all, hb, by rw [q1]; rfl, fun o _ hk => by omega, fun _ => rfl, fun i o ho hi _ => ?_⟩
        rw [hTm i (by omega)]
        exact q2 i o (by rw [htk i hi]; exact ho)
      · have hks : k < sufAt all := by
          have := lt_of_get q1
          simp at this; omega
        refine ⟨k, z, by rw [q4]; rfl, fun o' ho' hk => ?_, fun h => by omega, fun i o ho hi hik => ?_⟩
        · rw [htk k hk] at q1
          obtain rfl := Option.some.inj (ho'.symm.trans q1)
          rw [hTm k (by omega)]
          exact ⟨q3, q5⟩
        · rw [hTm i (by omega)]
          exact q6 i o (by rw [htk i hi]; exact ho) hik
    have hs0 : ∀ (X' : Ctx) (a' : Act), Sim E B X' { t := TLp (dstOf all) V T0 (fun _ => true) (sufAt all), fs := fs, pend := pd, h := nb } a' → Sim E B X' { r.1 with h := r.2.getD r.1.h } a' := by
      intro X' a' hs'
      have : ({ r.1 with h := r.2.getD r.1.h } : St) = { t := TLp (dstOf all) V T0 (fun _ => true) (sufAt all), fs := fs, pend := pd, h := nb } := by
        rw [hTm _ (Nat.le_refl _), e1, ← hr2, List.take_of_length_le (i := sufAt all) (l := all.toList.take (sufAt all)) (by simp; omega)]
      rw [this]; exact hs'
    refine any_sound (m := sufAt all) (k := k) (h2 := nb) (V := V) (T0 := T0) (h := hb) (fs := fs) hE hc hmo hd hkA hnbk hsl hVA ?_ ?_ all.size _ X1 a (by simp) hcl0 (fun i _ _ => listed0 i) (unl_le _ _) (start V k nb)
    · intro hge X' a' hs'
      have hsz : sufAt all = all.size := by omega
      rw [← hsz] at hs'
      have h3 := hs0 X' a' hs'
      rw [List.drop_eq_nil_of_le (by simp; omega)] at h2
      simp only [evOps, Tree.run, Option.some.injEq] at h2
      rw [h2] at h3
      exact hq X' a' h3
    · intro i fuel listed X' a' hin him hsz hri hcl hlm hs' hun
      -- all ahead of it are through
      have hri' := hri
      rw [mem_ready] at hri'
      obtain ⟨g1, o, ho, gedge⟩ := hri'
      have hil : i < listed.size := by omega
      have hLi : listed.getD i false = false := by simpa [Array.getD_eq_getD_getElem?, hil] using g1
      have hedge' : ∀ e, e ∈ o.after.toList → Region.binds .any e = true → listed.getD e.on false = true := fun e he hb => gedge e (by simpa using he) hb
      have hcl' := closed_set hsz ho hcl hedge'
      have hallb : ∀ j, j < i → listed.getD j false = true := by
        intro j hj
        have hb' := sufAt_spec all him hin hj
        have := anc_in hd hcl' i j (by show (listed.setIfInBounds i true).getD i false = true; rw [getD_set hil, if_pos rfl]) hb'
        have h' : (listed.setIfInBounds i true).getD j false = true := this
        rw [getD_set hil, if_neg (by omega)] at h'
        exact h'
      have him2 : i = sufAt all := by
        rcases Nat.eq_or_lt_of_le him with h3 | h3
        · exact h3.symm
        · have h4 := hallb _ h3
          rw [hlm _ (Nat.le_refl _) (by omega)] at h4; cases h4
      have hcut : ∀ n, sufAt all ≤ n → n ≤ all.size → TLp (dstOf all) V T0 (fun j => listed.getD j false) n = TLp (dstOf all) V T0 (fun _ => true) (sufAt all) := by
        intro n
        induction n with
        | zero =>
          intro h3 _
          have h0 : sufAt all = 0 := by omega
          rw [h0]; rfl
        | succ n ihn =>
          intro h3 h4
          rcases Nat.eq_or_lt_of_le h3 with h5 | h5
          · rw [← h5]
            exact stL (sufAt all) fun j hj => hallb j (by omega)
          · simp only [TLp]
            rw [if_neg (by rw [hlm n (by omega) (by omega)]; simp)]
            exact ihn (by omega) (by omega)
      have hbk : (if listed.getD k false = true then nb else hb) = nb := by
        rcases Nat.lt_or_ge k (sufAt all) with hk | hk
        · rw [hallb k (by omega)]; simp
        · rw [hnbk hk]; simp
      rw [hcut _ hsl (Nat.le_refl _), hbk] at hs'
      have h3 := hs0 X' a' hs'
      subst him2
      exact (suf_sound hE hcH hd hq _ (sufAt all) rfl (Nat.le_refl _) (fuel + 1) listed X' a' _ hsz (fun j hj _ => hallb j hj) (fun j hj => by
        rcases Nat.lt_or_ge j all.size with h5 | h5
        · exact hlm j hj h5
        · simp [Array.getD_eq_getD_getElem?, show listed.size ≤ j by omega]) hun h3 h2).2 _ hri

end Go.Eng
