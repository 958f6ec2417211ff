/- ENGINE V. Contracts of functions, by templates. -/
import Derived.Test.YtjebekbdjlooiaaEngU
namespace Go.Eng

structure FOut where
  res : AP
  h : List BP
  pro : Option (Nat × TypeId × List Sh) := none

/-- a nil slice of a result as an own one -/
def nilAt : Nat → AV → Bool
  | i, .tuple vs => match vs[i]? with | some .nils => true | _ => false
  | 0, .nils => true
  | _, _ => false
def setAt (i : Nat) (v : AV) : AV → AV
  | .tuple vs => .tuple (vs.set i v)
  | .nils => v
  | x => x
def proR (p : Option (Nat × TypeId × List Sh)) (r : AV × List Blk) : AV × List Blk := match p with
  | none => r
  | some (i, e, sh) => match nilAt i r.1 with
    | true => (setAt i (.vec r.2.length) r.1, r.2 ++ [.vec e sh []])
    | false => r

def lendBlk (h : List Blk) : Blk → Blk
  | .cells cs => .cells (AV.lendL h cs)
  | k => k

def freezeRes (fz : Bool) (r : AV × List Blk) : AV × List Blk := match fz with
  | false => r
  | true => let h1 := freezeL r.2 (List.range r.2.length); (r.1.lend h1, h1.map (lendBlk h1))

def FOut.take1 (o : FOut) (r : AV × List Blk) : Option (List PV) :=
  opt2 (o.res.take (r.1.ren (keep o.h.length))) (BP.takeL o.h ((r.2.take o.h.length).map (Blk.ren (keep o.h.length))))
def FOut.take (o : FOut) (r : AV × List Blk) : Option (List PV) := o.take1 (proR o.pro r)
def FOut.make (o : FOut) (ps : List PV) : AV × List Blk := let x := o.res.make ps; (x.1, (BP.makeL o.h x.2).1)
def FOut.kinds (o : FOut) : List PK := o.res.kinds ++ BP.kindsL o.h

def finF : List FOut → Nat → AV × List Blk → TR
  | [], _, _ => .fail
  | o :: l, j, r => match o.take r with
    | some ps => .leaf (j, ps)
    | none => finF l (j + 1) r

def outF (R : TR) : List FOut → Nat → Tree (AV × List Blk)
  | [], _ => .fail
  | o :: l, j => match l with
    | [] => .leaf (o.make (outPV R o.kinds 0))
    | _ :: _ => .br (jIs R j) (.leaf (o.make (outPV R o.kinds 0))) (outF R l (j + 1))

structure FIn where
  args : List AP
  h : List BP

def FIn.take (i : FIn) (args : List AV) (h : List Blk) : Option (List PV) := opt2 (AP.takeL i.args args) (BP.takeL i.h h)
def FIn.make (i : FIn) (ps : List PV) : List AV × List Blk := let x := AP.makeL i.args ps; (x.1, (BP.makeL i.h x.2).1)
def FIn.kinds (i : FIn) : List PK := AP.kindsL i.args ++ BP.kindsL i.h

def specG (i : FIn) (outs : List FOut) (T : List PV → TR) : Contract := fun args h => match i.take args h with
  | none => .fail
  | some ps => .br (okR (T ps)) (outF (T ps) outs 0) .fail

theorem outF_run {R : TR} {j : Nat} {ps : List PV} (hR : R.run = some (j, ps)) : ∀ (outs : List FOut) (k : Nat) (o : FOut) (r : AV × List Blk), k ≤ j → outs[j - k]? = some o → ps.map PV.kind = o.kinds →
    (outF R outs k).run = some r → r = o.make ps
  | [], k, o, r, _, h, _, _ => by simp at h
  | o' :: l, k, o, r, hk, h, hp, hr => by
    have hj : jR R = j := by simp [jR, hR]
    simp only [outF] at hr
    cases l with
    | nil =>
      have : j - k = 0 := by
        rcases Nat.eq_zero_or_pos (j - k) with h0 | h0
        · exact h0
        · rw [List.getElem?_eq_none (by simp; omega)] at h; cases h
      rw [this] at h
      simp only [List.getElem?_cons_zero, Option.some.injEq] at h
      subst h
      simp only [Tree.run, Option.some.injEq] at hr
      rw [← hr, outPV_ok hR _ 0 (by simpa using hp)]; rfl
    | cons o2 l =>
      simp only [Tree.run] at hr
      by_cases hjk : j = k
      · have hb : jIs R k = true := by simp [jIs, hj, hjk]
        rw [hb] at hr
        simp only [Option.some.injEq] at hr
        subst hjk
        simp only [Nat.sub_self, List.getElem?_cons_zero, Option.some.injEq] at h
        subst h
        rw [← hr, outPV_ok hR _ 0 (by simpa using hp)]; rfl
      · have hb : jIs R k = false := by
          simp only [jIs, hj]
          cases hq : Nat.beq j k with
          | false => rfl
          | true => exact absurd (Nat.eq_of_beq_eq_true hq) hjk
        rw [hb] at hr
        simp only at hr
        refine outF_run hR (o2 :: l) (k + 1) o r (by omega) ?_ hp hr
        rw [show j - k = (j - (k + 1)) + 1 by omega, List.getElem?_cons_succ] at h
        exact h

theorem finF_run : ∀ (outs : List FOut) (k : Nat) (r : AV × List Blk) (j : Nat) (ps : List PV), (finF outs k r).run = some (j, ps) → k ≤ j ∧ ∃ o, outs[j - k]? = some o ∧ o.take r = some ps
  | [], k, r, j, ps, h => by simp only [finF] at h; cases h
  | o :: l, k, r, j, ps, h => by
    simp only [finF] at h
    split at h
    · rename_i ps' ht
      simp only [Tree.run, Option.some.injEq, Prod.mk.injEq] at h
      obtain ⟨rfl, rfl⟩ := h
      exact ⟨Nat.le_refl _, o, by simp, ht⟩
    · obtain ⟨h1, o', h2, h4⟩ := finF_run l (k + 1) r j ps h
      refine ⟨by omega, o', ?_, h4⟩
      rw [show j - k = (j - (k + 1)) + 1 by omega, List.getElem?_cons_succ]
      exact h2

theorem specG_run {i : FIn} {outs : List FOut} {T : List PV → TR} {args : List AV} {h : List Blk} {r : AV × List Blk} (hr : (specG i outs T args h).run = some r) :
    ∃ ps j qs, i.take args h = some ps ∧ (T ps).run = some (j, qs) ∧ (outF (T ps) outs 0).run = some r := by
  unfold specG at hr
  cases ht : i.take args h with
  | none => rw [ht] at hr; cases hr
  | some ps =>
    rw [ht] at hr
    simp only [Tree.run] at hr
    cases hq : (T ps).run with
    | none => simp [okR, hq] at hr
    | some q =>
      obtain ⟨j, qs⟩ := q
      simp only [okR, hq, Option.isSome_some] at hr
      exact ⟨ps, j, qs, rfl, hq, hr⟩

theorem freezeRes_good {B : Base} {X : Ctx} (hs : HSim B X) (fz : Bool) {r : AV × List Blk} {v : Value} (hr : Rep X r.1 v) (hh : X.h = r.2) :
    ∃ X', X'.w = X.w ∧ X'.h = (freezeRes fz r).2 ∧ HSim B X' ∧ Rep X' (freezeRes fz r).1 v ∧ X'.y = X.y := by
  cases fz with
  | false => exact ⟨X, rfl, hh, hs, hr, rfl⟩
  | true =>
    obtain ⟨X1, f⟩ := freezeL_good (List.range r.2.length) hs
    have hf : X1.h = freezeL r.2 (List.range r.2.length) := by rw [f.h, hh]
    obtain ⟨d1, d2⟩ := weak_good f.hs (h' := X1.h.map (lendBlk X1.h)) (by simp) (fun b k' hb => by
      rw [List.getElem?_map] at hb
      cases hk : X1.h[b]? with
      | none => rw [hk] at hb; cases hb
      | some k0 =>
        rw [hk] at hb
        simp only [Option.map_some, Option.some.injEq] at hb
        refine ⟨k0, rfl, ?_⟩
        cases k0 with
        | cells cs => exact .inr (.inr (.inl ⟨cs, _, rfl, hb.symm, fun vs hv => lend_repL f.hs hv⟩))
        | _ => exact .inr (.inl hb.symm)) (fun b hb k' hk' => by
      obtain ⟨cs, hc, hc2⟩ := f.hs.impc b hb
      rw [List.getElem?_map, hc] at hk'
      simp only [Option.map_some, Option.some.injEq] at hk'
      subst hk'
      cases cs <;> first | (cases hc2; done) | rfl)
    refine ⟨{ X1 with h := X1.h.map (lendBlk X1.h) }, f.w, ?_, d1, ?_, f.ext.y⟩
    · simp only [freezeRes, hf]
    · have := (lend_rep f.hs (hr.ext f.ext)).ext d2
      simp only [freezeRes]
      rw [← hf]
      exact this

theorem proR_good {B : Base} {X : Ctx} (hs : HSim B X) (p : Option (Nat × TypeId × List Sh)) {r : AV × List Blk} {v : Value} (hr : Rep X r.1 v) (hh : X.h = r.2) :
    ∃ X', X'.w = X.w ∧ X'.h = (proR p r).2 ∧ HSim B X' ∧ Rep X' (proR p r).1 v ∧ X'.y = X.y := by
  cases p with
  | none => exact ⟨X, rfl, hh, hs, hr, rfl⟩
  | some p =>
    obtain ⟨i, e, sh⟩ := p
    obtain ⟨a, h⟩ := r
    simp only at hr hh
    subst hh
    simp only [proR]
    cases hn : nilAt i a with
    | false => exact ⟨X, rfl, rfl, hs, hr, rfl⟩
    | true =>
      simp only
      have hw := PushW.same X
      have hk : BlkRep (X.pushW (.vec e sh []) none X.w) X.h.length (.vec e sh []) := .inl ⟨by simp [Ctx.pushW], rfl⟩
      have hs1 := HSim.push hs hw hk
      have hx := Ctx.push_ext hs (.vec e sh []) hw
      have hrep : Rep (X.pushW (.vec e sh []) none X.w) (.vec X.h.length) (.slice none 0 0) := by
        refine .vec _ _ _ _ (by simp [Ctx.pushW]) fun sh' m hv => ?_
        unfold VecV
        simp [Ctx.pushW]
      refine ⟨X.pushW (.vec e sh []) none X.w, rfl, by simp [Ctx.pushW], hs1, ?_, rfl⟩
      cases a with
      | nils =>
        cases hr
        exact hrep
      | tuple vs =>
        cases hr with
        | tuple _ us hu =>
          simp only [nilAt] at hn
          cases hg : vs[i]? with
          | none => rw [hg] at hn; cases hn
          | some x =>
            rw [hg] at hn
            cases x <;> first | (cases hn; done) | skip
            obtain ⟨u, g1, g2⟩ := hu.get i _ hg
            have hue : u = .slice none 0 0 := by cases g2; rfl
            subst hue
            have hset := RepL.set hrep (hu.ext hx) i
            have he : us.set i (.slice none 0 0) = us := by
              apply List.ext_getElem?
              intro j
              by_cases hj : j = i
              · subst hj; rw [List.getElem?_set_self (lt_of_get g1), g1]
              · rw [List.getElem?_set_ne (Ne.symm hj)]
            rw [he] at hset
            exact .tuple _ _ hset
      | _ => cases i <;> cases hn

theorem FOut.weaken1 {o : FOut} {B : Base} {X : Ctx} {r : AV × List Blk} {ps : List PV} {v : Value} (hk : cellsTo B.imps.length o.h = true) (h : o.take1 r = some ps) (hs : HSim B X) (hr : Rep X r.1 v) (hh : X.h = r.2) :
    ps.map PV.kind = o.kinds ∧ ∃ X', X'.w = X.w ∧ X'.h = (o.make ps).2 ∧ HSim B X' ∧ Rep X' (o.make ps).1 v ∧ X'.y = X.y := by
  unfold FOut.take1 at h
  obtain ⟨x, y, h1, h2, rfl⟩ := opt2_some h
  obtain ⟨hc1, hc2⟩ := cellsTo_get hk
  obtain ⟨c1, c2⟩ := cut_good hs (n := o.h.length) hc1
  obtain ⟨a1, a2, a3⟩ := AP.take_ok (X := X.cut o.h.length) _ _ x y h1
  obtain ⟨b1, b2, b3, b4, b5⟩ := BP.takeL_ok (X := X.cut o.h.length) _ _ y [] h2
  have hch : (X.cut o.h.length).h = (r.2.take o.h.length).map (Blk.ren (keep o.h.length)) := by rw [← hh]; rfl
  rw [← hch] at b3 b5
  rw [List.append_nil] at b3 b5
  obtain ⟨d1, d2⟩ := weak_good c1 (h' := (BP.makeL o.h y).1) b3 (fun b k' hb => by obtain ⟨k0, e1, e2, _⟩ := b5 b k' hb; exact ⟨k0, e1, e2⟩)
    (fun b hb k' hk' => by
      obtain ⟨q, q1, q2⟩ := hc2 b hb
      obtain ⟨k0, _, _, e3⟩ := b5 b k' hk'
      exact e3 q q1 q2)
  refine ⟨by simp [FOut.kinds, a2, b2], { X.cut o.h.length with h := (BP.makeL o.h y).1 }, rfl, ?_, d1, ?_, rfl⟩
  · simp only [FOut.make, a1]
  · simp only [FOut.make]
    exact (a3 _ (hr.ren c2.toMove0)).ext d2

theorem FOut.weaken {o : FOut} {B : Base} {X : Ctx} {r : AV × List Blk} {ps : List PV} {v : Value} (hk : cellsTo B.imps.length o.h = true) (h : o.take r = some ps) (hs : HSim B X) (hr : Rep X r.1 v) (hh : X.h = r.2) :
    ps.map PV.kind = o.kinds ∧ ∃ X', X'.w = X.w ∧ X'.h = (o.make ps).2 ∧ HSim B X' ∧ Rep X' (o.make ps).1 v ∧ X'.y = X.y := by
  obtain ⟨X1, h1, h2, h3, h4, h5⟩ := proR_good hs o.pro hr hh
  obtain ⟨g1, X2, g2, g3, g4, g5, g6⟩ := FOut.weaken1 hk h h3 h4 h2
  exact ⟨g1, X2, g2.trans h1, g3, g4, g5, g6.trans h5⟩

/-- THE CONTRACT OF A FUNCTION, BY TEMPLATES. -/
theorem spec_good {E : Env} {P : Program} (hm : P.follows .mixedOrders = true) (hE : E.tok P) (hS : E.specs P) (hL : E.loopsOK P) (hb : E.bodies P) {f : FuncId} {fn : Func} (hf : P.funcs[f]? = some fn)
    (hn : (fn.name == "runtime.NumGoroutine") = false) (hbd : fn.body.isNone = false) {n : Nat} {fz : Bool} {i : FIn} {outs : List FOut} {T : List PV → TR}
    (hi : i.h.length = E.nimp ∧ i.h.all BP.isCells = true) (ho : (outs.all fun o => cellsTo E.nimp o.h) = true)
    (hT : ∀ ps r, ps.map PV.kind = i.kinds → (T ps).run = some r → ((evFunc E n f fn (i.make ps).1 (i.make ps).2).bind fun q => finF outs 0 (freezeRes fz q)).run = some r) :
    Spec P E.glob f (specG i outs T) := by
  refine ⟨enters_of hf hn hbd, fun B X args vargs r hs hen hgl ha h => ?_⟩
  obtain ⟨ps, j, qs, h1, h2, h3⟩ := specG_run h
  unfold FIn.take at h1
  obtain ⟨x, y, g1, g2, rfl⟩ := opt2_some h1
  obtain ⟨a1, a2, a3⟩ := AP.takeL_ok (X := X) _ _ x y g1
  obtain ⟨b1, b2, b3, b4, b5⟩ := BP.takeL_ok (X := X) _ _ y [] g2
  rw [List.append_nil] at b3 b5
  have himp : B.imps.length = X.h.length := by rw [hen.imps]; simp
  obtain ⟨d1, d2⟩ := weak_good hs (h' := (BP.makeL i.h y).1) b3 (fun b k' hb => by obtain ⟨k0, e1, e2, _⟩ := b5 b k' hb; exact ⟨k0, e1, e2⟩)
    (fun b hb k' hk' => by
      obtain ⟨k0, _, _, e3⟩ := b5 b k' hk'
      have hlt : b < i.h.length := by omega
      exact e3 i.h[b] (List.getElem?_eq_getElem hlt) (List.all_eq_true.1 hi.2 _ (List.getElem_mem hlt)))
  have hkd : (x ++ y).map PV.kind = i.kinds := by simp [FIn.kinds, a2, b2]
  have hgl1 : GlobOk E.glob ({ X with h := (BP.makeL i.h y).1 } : Ctx) := glob_move (X := X) (fun _ h => h) rfl rfl hgl
  obtain ⟨q, k1, k2⟩ := bind_some (hT _ _ hkd h2)
  have hmk : i.make (x ++ y) = ((AP.makeL i.args (x ++ y)).1, (BP.makeL i.h y).1) := by simp only [FIn.make, a1]
  rw [hmk] at k1
  have hcalls := evFunc_sound hm hE hS hL hb hf (n := n) d1 (by omega) hgl1 ((a3 _ ha).ext d2) k1
  refine hcalls.mono fun e w' ⟨v, X', e1, e2, e3, e4, e5, e6⟩ => ?_
  obtain ⟨X2, p1, p2, p3, p4, p5⟩ := freezeRes_good e5 fz e3 e4
  obtain ⟨_, o, q1, q2⟩ := finF_run _ _ _ _ _ k2
  have hco : cellsTo B.imps.length o.h = true := by
    rw [himp, ← b4, hi.1]
    exact List.all_eq_true.1 ho o (List.mem_of_getElem? q1)
  obtain ⟨m1, X3, m2, m3, m4, m5, m6⟩ := FOut.weaken hco q2 p3 p4 p2
  have hre := outF_run h2 outs 0 o r (Nat.zero_le _) q1 m1 h3
  subst hre
  exact ⟨v, X3, e1, by rw [m2, p1, e2], m5, m3, m4, (m6.trans p5).trans e6⟩

end Go.Eng
