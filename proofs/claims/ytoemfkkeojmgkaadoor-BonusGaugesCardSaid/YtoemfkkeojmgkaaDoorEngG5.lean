/- ENGINE G5. Every order of an open region. -/
import Derived.Test.YtoemfkkeojmgkaaDoorEngG4
import Derived.Orders
namespace Go.Eng

theorem stL {all : Array Oper} {V : Nat → AV} {T0 : List AV} {L L' : Nat → Bool} : ∀ n, (∀ j, j < n → L j = L' j) → TLp (dstOf all) V T0 L n = TLp (dstOf all) V T0 L' n
  | 0, _ => rfl
  | n + 1, h => by
    simp only [TLp]
    rw [h n (Nat.lt_succ_self n), stL n fun j hj => h j (by omega)]

theorem ready_nil {all : Array Oper} (hd : DrawOk all) {listed : Array Bool} (hsz : listed.size = all.size) (h : Region.ready .any all listed = []) : ∀ i, i < all.size → listed.getD i false = true := by
  intro i
  induction i using Nat.strongRecOn with
  | _ i ih =>
    intro hi
    cases hl : listed.getD i false with
    | true => rfl
    | false =>
      have ho : all[i]? = some all[i] := Array.getElem?_eq_getElem hi
      have : i ∈ Region.ready .any all listed := by
        rw [mem_ready]
        refine ⟨?_, all[i], ho, fun e he hb => ?_⟩
        · have hi' : i < listed.size := by omega
          simpa [Array.getD_eq_getD_getElem?, hi'] using hl
        · have hlt := hd.edge i _ ho e (by simpa using he) hb
          exact ih e.on hlt (by omega)
      rw [h] at this; cases this

theorem closed_set {all : Array Oper} {listed : Array Bool} {i : Nat} {o : Oper} (hsz : listed.size = all.size) (ho : all[i]? = some o) (hc : Closed all fun j => listed.getD j false)
    (hedge : ∀ e, e ∈ o.after.toList → Region.binds .any e = true → listed.getD e.on false = true) : Closed all fun j => (listed.setIfInBounds i true).getD j false := by
  have hi : i < listed.size := by rw [hsz]; exact (Array.getElem?_eq_some_iff.1 ho).1
  intro j oj hj hL e he hb
  show (listed.setIfInBounds i true).getD e.on false = true
  rw [getD_set hi]
  split
  · rfl
  · by_cases hji : j = i
    · subst hji
      rw [ho] at hj; cases hj
      exact hedge e he hb
    · have hL' : (listed.setIfInBounds i true).getD j false = true := hL
      rw [getD_set hi, if_neg hji] at hL'
      exact hc j oj hj hL' e he hb

section
variable {E : Env} {P : Program} {callS : List Blk → CallS} {B : Base} {all : Array Oper} {V : Nat → AV} {T0 : List AV} {h : List Blk} {fs : List (List AV)} {Q : Exit → Act → World → Prop}

theorem any_sound (hE : E.tok P) (hc : StillOK E P callS) (hd : DrawOk all) {m : Nat}
    (hV : ∀ i o, all[i]? = some o → i < m → valOf E (callS h) h all i o (TLp (dstOf all) V T0 (fun _ => true) i) = some (V i))
    (hq : all.size ≤ m → ∀ X a, Sim E B X { t := TLp (dstOf all) V T0 (fun _ => true) all.size, fs := fs, h := h } a → Q .normal a X.w)
    (hlast : ∀ i fuel listed X a, i < all.size → m ≤ i → listed.size = all.size → i ∈ Region.ready .any all listed → Closed all (fun j => listed.getD j false) →
      Sim E B X { t := TLp (dstOf all) V T0 (fun j => listed.getD j false) all.size, fs := fs, h := h } a →
      unl listed all.size ≤ fuel + 1 → wpOp P all Q i (wpAny P .any all Q fuel (listed.setIfInBounds i true)) a X.w) :
    ∀ (fuel : Nat) (listed : Array Bool) (X : Ctx) (a : Act), listed.size = all.size → Closed all (fun j => listed.getD j false) → (∀ i, m ≤ i → i < all.size → listed.getD i false = false) →
      unl listed all.size ≤ fuel → Sim E B X { t := TLp (dstOf all) V T0 (fun j => listed.getD j false) all.size, fs := fs, h := h } a → wpAny P .any all Q fuel listed a X.w := by
  intro fuel
  have fin : ∀ (listed : Array Bool) (X : Ctx) (a : Act), listed.size = all.size → (∀ i, m ≤ i → i < all.size → listed.getD i false = false) → Region.ready .any all listed = [] →
      Sim E B X { t := TLp (dstOf all) V T0 (fun j => listed.getD j false) all.size, fs := fs, h := h } a → Q .normal a X.w := by
    intro listed X a hsz hm hr hs
    have hall := ready_nil hd hsz hr
    rw [stL (L' := fun _ => true) all.size fun j hj => hall j hj] at hs
    rcases Nat.lt_or_ge m all.size with hlt | hge
    · have := hm m (Nat.le_refl _) hlt
      rw [hall m hlt] at this; cases this
    · exact hq hge X a hs
  induction fuel with
  | zero =>
    intro listed X a hsz hcl hm hu hs
    have hr : Region.ready .any all listed = [] := by
      apply List.eq_nil_iff_forall_not_mem.2
      intro j hj
      rw [mem_ready] at hj
      obtain ⟨h1, o, h2, _⟩ := hj
      have hj' := (Array.getElem?_eq_some_iff.1 h2).1
      have := unl_zero (listed := listed) (Nat.le_zero.1 hu) j hj'
      have hj2 : j < listed.size := by omega
      simp [Array.getD_eq_getD_getElem?, hj2] at this h1
      rw [this] at h1; cases h1
    exact ⟨hr, fin listed X a hsz hm hr hs⟩
  | succ fuel ih =>
    intro listed X a hsz hcl hm hu hs
    refine ⟨fun hr => fin listed X a hsz hm hr hs, fun i hi => ?_⟩
    have hri := hi
    rw [mem_ready] at hi
    obtain ⟨h1, o, ho, hedge⟩ := hi
    have hin := (Array.getElem?_eq_some_iff.1 ho).1
    have hil : i < listed.size := by omega
    have hLi : listed.getD i false = false := by simpa [Array.getD_eq_getD_getElem?, hil] using h1
    have hedge' : ∀ e, e ∈ o.after.toList → Region.binds .any e = true → listed.getD e.on false = true := fun e he hb => hedge e (by simpa using he) hb
    rcases Nat.lt_or_ge i m with him | him
    · have hv := hV i o ho him
      have hsame : ∀ t, t ∈ looks all o → (TLp (dstOf all) V T0 (fun j => listed.getD j false) all.size)[t]? = (TLp (dstOf all) V T0 (fun _ => true) i)[t]? := fun t ht =>
        same_at hd hcl ho (Nat.le_of_lt hin) hLi hedge' ht
      rw [← valOf_same (E := E) (callS := callS h) (h := h) (i := i) hsame] at hv
      have hcl' := closed_set hsz ho hcl hedge'
      have hun : unl (listed.setIfInBounds i true) all.size ≤ fuel := by
        have := (unl_set hil hLi all.size).2 hin; omega
      have hdi : dstOf all i = o.dst := by simp [dstOf, ho]
      have hnext : ∀ (X' : Ctx) (u : Value), Sim E B X' { t := TLp (dstOf all) V T0 (fun j => listed.getD j false) all.size, fs := fs, h := h } a → Rep X' (V i) u →
          wpAny P .any all Q fuel (listed.setIfInBounds i true) (a.put o.dst u) X'.w := by
        intro X' u hs' hu'
        refine ih _ X' _ (by simp [hsz]) hcl' ?_ hun ?_
        · intro k hk1 hk2
          rw [getD_set hil, if_neg (by omega)]
          exact hm k hk1 hk2
        · have hput := hs'.put hu' o.dst
          have hT : TLp (dstOf all) V T0 (fun j => (listed.setIfInBounds i true).getD j false) all.size = putT (TLp (dstOf all) V T0 (fun j => listed.getD j false) all.size) o.dst (V i) := by
            rw [← hdi, ← TLp_set hin hLi]
            · exact stL all.size fun j _ => getD_set hil
            · intro k hk hki t ht he
              cases hk' : all[k]? with
              | none => simp [dstOf, hk'] at he
              | some ok =>
                simp only [dstOf, hk', Option.bind_some] at he
                rw [hdi] at ht
                exact (hd.dst i k o ok ho hk' hki t he).1 ht
          rw [hT]
          exact hput
      unfold wpOp
      rw [ho]
      simp only
      unfold valOf at hv
      cases hw : wantedA all o (TLp (dstOf all) V T0 (fun j => listed.getD j false) all.size) with
      | none => rw [hw] at hv; cases hv
      | some b =>
        rw [hw] at hv
        rw [wantedA_sound hs.t hw]
        cases b with
        | true =>
          simp only [if_true]
          left
          cases hev : (evStill E (callS h) h (E.opd (TLp (dstOf all) V T0 (fun j => listed.getD j false) all.size)) o.op).run with
          | none => rw [hev] at hv; cases hv
          | some av =>
            rw [hev] at hv
            simp only [Option.map_some, Option.some.injEq] at hv
            refine evStill_sound hE hc hs hev fun X' u hs' hu' => hnext X' u hs' ?_
            rw [← hv]
            exact litAV_rep hu'
        | false =>
          simp only [Option.some.injEq] at hv
          simp only [Bool.false_eq_true, if_false]
          exact hnext X _ hs (by rw [← hv]; exact .skip)
    · exact hlast i fuel listed X a hin him hsz hri hcl hs hu
end

theorem listed0 {n : Nat} (i : Nat) : (Array.replicate n false).getD i false = false := by
  rcases Nat.lt_or_ge i n with h | h <;> simp [Array.getD_eq_getD_getElem?, h]

theorem unl_le (listed : Array Bool) : ∀ n, unl listed n ≤ n
  | 0 => Nat.le_refl _
  | n + 1 => by simp only [unl]; have := unl_le listed n; split <;> omega

theorem lastB_spec {all : Array Oper} (h : lastB all = true) : ∀ j, j < all.size - 1 → ((ancOf all.toList).getD (all.size - 1) 0).testBit j = true := by
  unfold lastB at h
  simp only [List.all_eq_true, List.mem_range] at h
  intro j hj
  have := h j (by simpa using hj)
  simpa using this

theorem evDraw_sound {E : Env} {P : Program} (hm : P.follows .mixedOrders = true) (hE : E.tok P) {callH : CallH} (hcH : CallOK E P callH) {callS : List Blk → CallS} (hc : StillOK E P callS) {B : Base} {id : Nat} {all : Array Oper} {X : Ctx} {st st' : St} {a : Act}
    (hs : Sim E B X st a) (h : (evDraw E callH (callS st.h) all st).run = some st') {Q : Exit → Act → World → Prop} (hq : ∀ X' a', Sim E B X' st' a' → Q .normal a' X'.w) : (Code.region id all true).wp P Q a X.w := by
  apply wp_region_any hm
  have hs1 := hs.drawn (X.w.drawn + 1)
  generalize hX1 : ({ X with w := { X.w with drawn := X.w.drawn + 1 } } : Ctx) = X1 at hs1
  have hw : ({ X.w with drawn := X.w.drawn + 1 } : World) = X1.w := by rw [← hX1]
  rw [hw]
  obtain ⟨T0, fs, hb⟩ := st
  unfold evDraw at h
  by_cases hdb : drawB all = false
  · rw [if_pos hdb] at h; cases h
  · rw [if_neg hdb] at h
    have hd := drawB_ok (by simpa using hdb : drawB all = true)
    have start : ∀ (V : Nat → AV), Sim E B X1 { t := TLp (dstOf all) V T0 (fun j => (Array.replicate all.size false).getD j false) all.size, fs := fs, h := hb } a := by
      intro V
      have : TLp (dstOf all) V T0 (fun j => (Array.replicate all.size false).getD j false) all.size = T0 := by
        have : ∀ n, TLp (dstOf all) V T0 (fun j => (Array.replicate all.size false).getD j false) n = T0 := by
          intro n
          induction n with
          | zero => rfl
          | succ n ih => simp only [TLp]; rw [if_neg (by rw [listed0]; simp), ih]
        exact this _
      rw [this]; exact hs1
    have hcl0 : Closed all fun j => (Array.replicate all.size false).getD j false := by
      intro i o _ hL
      have hL' : (Array.replicate all.size false).getD i false = true := hL
      rw [listed0] at hL'; cases hL'
    have hdst : dstOf all = fun i => (all.toList[i]?).bind (·.dst) := by funext i; simp [dstOf]
    by_cases hlb : lastB all = true
    · rw [if_pos hlb] at h
      obtain ⟨s, h1, h2⟩ := bind_some h
      obtain ⟨V, e1, e2⟩ := evStillOps_vals all.toList.dropLast 0 _ s h1
      simp only [Nat.zero_add] at e2
      have hlen : all.toList.dropLast.length = all.size - 1 := by simp
      have hTm : ∀ i, i ≤ all.size - 1 → TLp (dstOf all) V T0 (fun _ => true) i = foldV V 0 (all.toList.dropLast.take i) T0 := by
        intro i hi
        rw [hdst, TLp_fold i (by simp; omega)]
        rw [List.dropLast_eq_take, List.take_take, Nat.min_eq_left (by simpa using hi)]
      refine any_sound (m := all.size - 1) (V := V) (T0 := T0) (h := hb) (fs := fs) hE hc hd ?_ ?_ ?_ all.size _ X1 a (by simp) hcl0 (fun i _ _ => listed0 i) (unl_le _ _) (start V)
      · intro i o ho hi
        rw [hTm i (by omega)]
        refine e2 i o ?_
        rw [List.dropLast_eq_take, List.getElem?_take, if_pos (by simpa using hi)]
        simpa using ho
      · intro hge X' a' hs'
        have h0 : all.size = 0 := by omega
        have hnil : all.toList = [] := by
          apply List.eq_nil_of_length_eq_zero; simpa using h0
        rw [hnil] at h1 h2
        simp only [List.dropLast_nil, evStillOps, Tree.run, Option.some.injEq, List.drop_nil, evOps] at h1 h2
        subst h1 h2
        apply hq X' a'
        rw [h0] at hs'
        simpa [TLp] using hs'
      · intro i fuel listed X' a' hin him hsz hri hcl hs' hun
        have hi : i = all.size - 1 := by omega
        have hri' := hri
        rw [mem_ready] at hri'
        obtain ⟨g1, o, ho, gedge⟩ := hri'
        have hil : i < listed.size := by omega
        have hLi : listed.getD i false = false := by simpa [Array.getD_eq_getD_getElem?, hil] using g1
        have hedge' : ∀ e, e ∈ o.after.toList → Region.binds .any e = true → listed.getD e.on false = true := fun e he hb => gedge e (by simpa using he) hb
        have hcl' := closed_set hsz ho hcl hedge'
        have hallb : ∀ j, j < i → listed.getD j false = true := by
          intro j hj
          have hb' := lastB_spec hlb j (by omega)
          rw [← hi] at hb'
          have := anc_in hd hcl' i j (by show (listed.setIfInBounds i true).getD i false = true; rw [getD_set hil, if_pos rfl]) hb'
          have h' : (listed.setIfInBounds i true).getD j false = true := this
          rw [getD_set hil, if_neg (by omega)] at h'
          exact h'
        have hT : TLp (dstOf all) V T0 (fun j => listed.getD j false) all.size = s.t := by
          have : all.size = (all.size - 1) + 1 := by omega
          rw [this]
          simp only [TLp]
          rw [← hi, if_neg (by rw [hLi]; simp), stL (L' := fun _ => true) i fun j hj => hallb j hj, hTm i (by omega), e1]
          rw [List.take_of_length_le (by rw [hlen]; omega)]
        rw [hT] at hs'
        have hse : ({ t := s.t, fs := fs, h := hb } : St) = s := by rw [e1]
        rw [hse] at hs'
        have hdrop : all.toList.drop (all.size - 1) = [o] := by
          rw [List.drop_eq_getElem_cons (by simp; omega)]
          have : all.toList[all.size - 1]'(by simp; omega) = o := by
            have h' : all.toList[all.size - 1]? = some o := by rw [← hi]; simpa using ho
            rw [List.getElem?_eq_getElem (by simp; omega)] at h'
            exact Option.some.inj h'
          rw [this, List.drop_eq_nil_of_le (by simp; omega)]
        rw [hdrop] at h2
        have done : ∀ (X'' : Ctx) (a'' : Act), Sim E B X'' st' a'' → wpAny P .any all Q fuel (listed.setIfInBounds i true) a'' X''.w := by
          intro X'' a'' hs''
          have hr : Region.ready .any all (listed.setIfInBounds i true) = [] := by
            apply List.eq_nil_iff_forall_not_mem.2
            intro j hj
            rw [mem_ready] at hj
            obtain ⟨q1, o', q2, _⟩ := hj
            have hj' := (Array.getElem?_eq_some_iff.1 q2).1
            have hjt : (listed.setIfInBounds i true).getD j false = true := by
              rw [getD_set hil]
              split
              · rfl
              · exact hallb j (by omega)
            have hj2 : j < (listed.setIfInBounds i true).size := by simp; omega
            rw [Array.getD_eq_getD_getElem?, Array.getElem?_eq_getElem hj2] at hjt q1
            simp only [Option.getD_some] at hjt q1
            rw [hjt] at q1; cases q1
          cases fuel with
          | zero => exact ⟨hr, hq X'' a'' hs''⟩
          | succ fuel => exact ⟨fun _ => hq X'' a'' hs'', fun j hj => by rw [hr] at hj; cases hj⟩
        simp only [evOps] at h2
        unfold wpOp
        rw [ho]
        simp only
        cases hwa : wantedA all o s.t with
        | none => rw [hwa] at h2; cases h2
        | some b =>
          rw [hwa] at h2
          rw [wantedA_sound hs'.t hwa]
          cases b with
          | true =>
            simp only [if_true]
            left
            obtain ⟨s1, k1, k2⟩ := bind_some h2
            obtain ⟨s2, k3, k4⟩ := bind_some k2
            simp only [Tree.run, Option.some.injEq] at k4
            subst k4
            exact evStep_sound hE hcH hs' k1 fun X'' a'' hs'' => done X'' a'' (litSt_sound hs'' k3)
          | false =>
            simp only [Tree.run, Option.some.injEq] at h2
            simp only [Bool.false_eq_true, if_false]
            exact done X' _ (h2 ▸ hs'.put (av := .skip) .skip o.dst)
    · rw [if_neg hlb] at h
      obtain ⟨V, e1, e2⟩ := evStillOps_vals all.toList 0 _ st' h
      simp only [Nat.zero_add] at e2
      have hTm : ∀ i, i ≤ all.size → TLp (dstOf all) V T0 (fun _ => true) i = foldV V 0 (all.toList.take i) T0 := by
        intro i hi
        rw [hdst, TLp_fold i (by simpa using hi)]
      refine any_sound (m := all.size) (V := V) (T0 := T0) (h := hb) (fs := fs) hE hc hd ?_ ?_ ?_ all.size _ X1 a (by simp) hcl0 (fun i _ _ => listed0 i) (unl_le _ _) (start V)
      · intro i o ho hi
        rw [hTm i (by omega)]
        exact e2 i o (by simpa using ho)
      · intro _ X' a' hs'
        rw [hTm _ (Nat.le_refl _)] at hs'
        apply hq X' a'
        rw [e1]
        rw [List.take_of_length_le (by simp)] at hs'
        exact hs'
      · intro i fuel listed X' a' hin him
        omega

end Go.Eng
