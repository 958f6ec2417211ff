/- ENGINE E. Steps, straight regions. -/
import Derived.Test.YtjebekbdjlooiaaEngD
import Derived.Test.YtjebekbdjlooiaaEngI
import Derived.Tactics
namespace Go.Eng

/-- what a call handler must show: of functions, and of yield -/
structure CallOK (E : Env) (P : Program) (callH : CallH) (B : Base) : Prop where
  fn : ∀ (f : FuncId) (args : List AV) (st : St) (r : AV × St) (X : Ctx) (a : Act) (vargs : List Value), Sim E B X st a → RepL X args vargs → (callH (some f) args st).run = some r →
    (∀ w, (callFunc f vargs.toArray).run P w = .ok (.enter f vargs.toArray) w) ∧
    Calls P f vargs.toArray X.w fun e w' => ∃ v X', e = .returned v ∧ X'.w = w' ∧ Rep X' r.1 v ∧ Sim E B X' r.2 a
  yld : ∀ (args : List AV) (st : St) (r : AV × St) (X : Ctx) (a : Act) (vargs : List Value), Sim E B X st a → RepL X args vargs → (callH none args st).run = some r →
    ∃ (l : Nat) (f : FuncId) (tmps : Array Value) (assign body : Code), (Instr.yield X.y vargs.toArray).run P X.w = .ok (.round l f tmps assign body) X.w ∧
    ∀ n, RoundIn (wideR B.ro) n P l f tmps assign body X.w fun e w' => ∃ v X', e = .returned v ∧ X'.w = w' ∧ Rep X' r.1 v ∧ Sim E B X' r.2 a

theorem putT_rep {X : Ctx} {t : List AV} {a : Act} (h : RepL X t a.tmps.toList) {av : AV} {v : Value} (hv : Rep X av v) (dst : Option Tmp) : RepL X (putT t dst av) (a.put dst v).tmps.toList := by
  cases dst with
  | none => exact h
  | some d =>
    simp only [putT, Act.put, Array.toList_setIfInBounds]
    exact RepL.set hv h d

theorem put_defers (a : Act) (dst : Option Tmp) (v : Value) : (a.put dst v).defers = a.defers := by cases dst <;> rfl

theorem Sim.put {E : Env} {B : Base} {X : Ctx} {st : St} {a : Act} (hs : Sim E B X st a) {av : AV} {v : Value} (hv : Rep X av v) (dst : Option Tmp) :
    Sim E B X { st with t := putT st.t dst av } (a.put dst v) :=
  ⟨hs.hs, hs.h, putT_rep hs.t hv dst, hs.fs, hs.glob, by rw [put_defers]; exact hs.df, hs.ni, hs.y, hs.pin⟩

theorem Sim.ext {E : Env} {B : Base} {X X' : Ctx} {st : St} {a : Act} (hs : Sim E B X st a) (hx : Ext X X') (hs' : HSim B X') : Sim E B X' { st with h := X'.h } a :=
  ⟨hs', rfl, hs.t.ext hx, hs.fs.ext hx, fun x hx' => ⟨(hs.glob x hx').1, (hs.glob x hx').2.ext hx⟩, hx.kept ▸ hs.df, hs.ni, hx.y.trans hs.y, fun p hp => hx.kept ▸ hs.pin p hp⟩

theorem Sim.apply {E : Env} {B : Base} {X X' : Ctx} {st : St} {a : Act} (hs : Sim E B X st a) {r : Res} {v : Value} (hv : Rep X' r.1 v) (hs' : HSim B X')
    (hm : match r.2.2 with | none => X'.h = r.2.1 ∧ Ext X X' | some b => X'.h = r.2.1.map (Blk.ren (void b)) ∧ Move X X' (void b)) (dst : Option Tmp) :
    Sim E B X' (st.apply dst r) (a.put dst v) := by
  unfold St.apply
  cases hn : r.2.2 with
  | none =>
    rw [hn] at hm
    obtain ⟨h1, h2⟩ := hm
    have := (hs.ext h2 hs').put hv dst
    rw [h1] at this
    exact this
  | some b =>
    rw [hn] at hm
    obtain ⟨h1, h2⟩ := hm
    refine ⟨hs', h1, putT_rep (hs.t.ren h2.toMove0) hv dst, hs.fs.ren h2.toMove0, fun x hx => ?_, by rw [put_defers]; exact h2.kept ▸ hs.df, hs.ni, h2.y.trans hs.y, fun p hp => h2.kept ▸ hs.pin p hp⟩
    obtain ⟨⟨sh, l, i, off, he⟩, hr⟩ := hs.glob x hx
    refine ⟨⟨sh, l, i, off, he⟩, ?_⟩
    have := hr.ren h2.toMove0
    rw [he] at this ⊢
    exact this

theorem evStep_noDefer {E : Env} {callH : CallH} {o : Oper} {st s : St} (h : (evStep E callH o st).run = some s) : ∀ c, o.op ≠ .defer c := by
  intro c hc
  unfold evStep at h
  rw [hc] at h
  simp [evOp, Tree.bind, Tree.run] at h

theorem evStep_sound {E : Env} {P : Program} (hE : E.tok P) {callH : CallH} {B : Base} (hc : CallOK E P callH B) {X : Ctx} {st st' : St} {a : Act} (hs : Sim E B X st a) {o : Oper}
    (h : (evStep E callH o st).run = some st') {next : Act → World → Prop} {Q : Exit → Act → World → Prop} (hq : ∀ X' a', Sim E B X' st' a' → next a' X'.w) {n : Nat} : o.wpIn (wideR B.ro) n P a X.w next Q := by
  have hnd := evStep_noDefer h
  have plain : ∀ (_ : ((evOp E st.h (E.opd st.t) o.op).bind fun r => .leaf (st.apply o.dst r)).run = some st'), o.wp P a X.w next Q := by
    intro hh
    obtain ⟨r, h1, h2⟩ := bind_some hh
    cases h2
    obtain ⟨nx, v, X', g1, g2, g3, g4, g5⟩ := evOp_good hE hs h1
    unfold Oper.wp
    rw [g1]
    rcases g2 with rfl | ⟨rfl, rfl⟩
    · exact hq X' _ (hs.apply g3 g4 g5 o.dst)
    · exact hq X' _ (hs.apply g3 g4 g5 o.dst)
  unfold evStep at h
  split at h
  · rename_i x args tys hop
    cases hx : E.opd st.t x with
    | fn f first caps =>
      rw [hx] at h
      obtain ⟨r, h1, h2⟩ := bind_some h
      cases h2
      have hv := rep_opd hs x
      rw [hx] at hv
      generalize hev : a.eval x = vx at hv
      cases hv with
      | fn _ _ _ vf vc q1 q2 =>
        have hargs := repL_opds hs args.toList
        have hall : RepL X (first ++ args.toList.map (E.opd st.t) ++ caps) (vf ++ args.toList.map a.eval ++ vc) := (q1.append hargs).append q2
        obtain ⟨g1, g2⟩ := hc.fn f _ st r X a _ hs hall h1
        refine oper_in B.ro n ?_ hnd
        unfold Oper.wp
        have hrun : (execOp a.eval o).run P X.w = .ok (.enter f (vf ++ args.toList.map a.eval ++ vc).toArray) X.w := by
          simp only [execOp, hop, resolve, hev, Deferred.ofValue, Sem.run_bind, Sem.run_pure, Result.andThen_ok, invoke]
          have : vf.toArray ++ args.map a.eval ++ vc.toArray = (vf ++ args.toList.map a.eval ++ vc).toArray := by
            apply Array.ext'; simp
          rw [this]
          exact g1 X.w
        rw [hrun]
        refine g2.mono fun e w' ⟨v, X', e1, e2, e3, e4⟩ => ?_
        subst e1 e2
        exact hq X' _ (e4.put e3 o.dst)
    | yld =>
      rw [hx] at h
      obtain ⟨r, h1, h2⟩ := bind_some h
      cases h2
      have hv := rep_opd hs x
      rw [hx] at hv
      generalize hev : a.eval x = vx at hv
      cases hv
      obtain ⟨l, f, tmps, assign, body, g1, g2⟩ := hc.yld _ st r X a _ hs (repL_opds hs args.toList) h1
      refine ⟨fun _ _ => trivial, ?_⟩
      rw [Oper.semAt_eq _ _ _ hnd]
      have hrun : (execOp a.eval o).run P X.w = .ok (.round l f tmps assign body) X.w := by
        simp only [execOp, hop, resolve, hev, Deferred.ofValue, Sem.run_bind, Sem.run_pure, Result.andThen_ok, invoke]
        have : #[] ++ args.map a.eval = (args.toList.map a.eval).toArray := by
          apply Array.ext'; simp
        rw [this]
        exact g1
      rw [hrun]
      refine ⟨wideR_depth B.ro, (g2 (n - 1)).mono fun e w' ⟨v, X', e1, e2, e3, e4⟩ => ?_⟩
      subst e1 e2
      exact hq X' _ (e4.put e3 o.dst)
    | _ => rw [hx] at h; cases h
  · exact oper_in B.ro n (plain h) hnd

theorem Sim.lit {E : Env} {B : Base} {X : Ctx} {st : St} {a : Act} (hs : Sim E B X st a) {d : Nat} {b : Bool} (hd : st.t[d]? = some (.bool b)) : Sim E B X { st with t := st.t.set d (.blit b) } a := by
  refine ⟨hs.hs, hs.h, ?_, hs.fs, hs.glob, hs.df, hs.ni, hs.y, hs.pin⟩
  obtain ⟨v, h1, h2⟩ := hs.t.get d _ hd
  have hv : v = .bool b := by cases h2; rfl
  subst hv
  have := RepL.set (X := X) (a := .blit b) (v := .bool b) (.blit b) hs.t d
  have e : a.tmps.toList.set d (.bool b) = a.tmps.toList := by
    apply List.ext_getElem?
    intro i
    by_cases hi : i = d
    · subst hi; rw [List.getElem?_set_self (lt_of_get h1), h1]
    · rw [List.getElem?_set_ne (Ne.symm hi)]
  rwa [e] at this

theorem litSt_sound {E : Env} {B : Base} {X : Ctx} {st st' : St} {a : Act} (hs : Sim E B X st a) {all : Array Oper} {k : Nat} {o : Oper} (h : (litSt all k o st).run = some st') : Sim E B X st' a := by
  unfold litSt at h
  split at h
  · split at h
    · rename_i d _
      split at h
      · rename_i b hd
        cases b
        · cases h; exact hs.lit hd
        · cases h; exact hs.lit hd
      · cases h; exact hs
    · cases h; exact hs
  · cases h; exact hs

theorem wantedA_sound {X : Ctx} {t : List AV} {a : Act} (ht : RepL X t a.tmps.toList) {all : Array Oper} {o : Oper} {b : Bool} (h : wantedA all o t = some b) : Region.wanted o (yielded all a.tmps) = b := by
  unfold wantedA at h
  unfold Region.wanted
  cases hg : o.guard with
  | none => rw [hg] at h; cases h; rfl
  | some p =>
    obtain ⟨j, want⟩ := p
    rw [hg] at h
    simp only at h ⊢
    cases hj : (all[j]?).bind (·.dst) with
    | none => rw [hj] at h; cases h
    | some d =>
      rw [hj] at h
      simp only at h
      unfold yielded
      rw [hj, Option.bind_some]
      split at h
      · rename_i c hd
        cases h
        obtain ⟨v, h1, h2⟩ := ht.get d _ hd
        have h1' : a.tmps[d]? = some v := by simpa using h1
        cases h2
        rw [h1']
        cases c <;> cases want <;> rfl
      · rename_i hd
        cases h
        obtain ⟨v, h1, h2⟩ := ht.get d _ hd
        have h1' : a.tmps[d]? = some v := by simpa using h1
        cases h2
        rw [h1']
        rfl
      · cases h

theorem evOps_sound {E : Env} {P : Program} (hE : E.tok P) {callH : CallH} {B : Base} (hc : CallOK E P callH B) {all : Array Oper} {st' : St} {Q : Exit → Act → World → Prop} {n : Nat}
    (hq : ∀ X' a', Sim E B X' st' a' → Q .normal a' X'.w) : ∀ (l : List Oper) (k : Nat) {X : Ctx} {st : St} {a : Act}, Sim E B X st a → (evOps E callH all k l st).run = some st' → wpListIn (wideR B.ro) n P all Q l a X.w
  | [], k, X, st, a, hs, h => by
    simp only [evOps, Tree.run, Option.some.injEq] at h
    subst h
    exact hq X a hs
  | o :: rest, k, X, st, a, hs, h => by
    simp only [evOps] at h
    simp only [wpListIn]
    cases hw : wantedA all o st.t with
    | none => rw [hw] at h; cases h
    | some b =>
      rw [hw] at h
      rw [wantedA_sound hs.t hw]
      cases b with
      | true =>
        simp only [if_true]
        obtain ⟨s1, h1, h2⟩ := bind_some h
        obtain ⟨s2, h3, h4⟩ := bind_some h2
        refine evStep_sound hE hc hs h1 fun X' a' hs' => ?_
        exact evOps_sound hE hc hq rest (k + 1) (litSt_sound hs' h3) h4
      | false =>
        simp only [Bool.false_eq_true, if_false]
        exact ⟨fun _ _ => trivial, evOps_sound hE hc hq rest (k + 1) (hs.put (av := .skip) .skip o.dst) h⟩

theorem evRegion_sound {E : Env} {P : Program} (hE : E.tok P) {callH : CallH} {B : Base} (hc : CallOK E P callH B) {id : Nat} {ops : Array Oper} {X : Ctx} {st st' : St} {a : Act} (hs : Sim E B X st a)
    (h : (evOps E callH ops 0 ops.toList st).run = some st') {Q : Exit → Act → World → Prop} {n : Nat} (hq : ∀ X' a', Sim E B X' st' a' → Q .normal a' X'.w) : (Code.region id ops false).wpIn (wideR B.ro) n P Q a X.w :=
  wpIn_region_list (evOps_sound hE hc hq ops.toList 0 hs h)

end Go.Eng
