/- ENGINE G2. Whatever order the tape picks: the operations of a region yield what they yield in index order. -/
import Derived.Test.YtjebekbdjlooiaaEngG
namespace Go.Eng

/-! ### An operation looks at its operands alone -/
theorem evStill_congr {E : Env} {callS : CallS} {h : List Blk} {f g : Operand → AV} {op : Op} (hfg : ∀ x ∈ op.operands.toList, f x = g x) : evStill E callS h f op = evStill E callS h g op := by
  have hmap : ∀ (l : List Operand), (∀ x ∈ l, x ∈ op.operands.toList) → l.map f = l.map g := fun l hl => List.map_congr_left fun x hx => hfg x (hl x hx)
  have hop : stillOp E op = true → evOp E h f op = evOp E h g op := by
    intro hst
    unfold evOp
    cases op <;> simp only [stillOp] at hst <;> try (cases hst)
    case move x => simp only; rw [hfg x (by simp [Op.operands])]
    case assign x => simp only; rw [hfg x (by simp [Op.operands])]
    case pick c a b => simp only; rw [hfg c (by simp [Op.operands]), hfg a (by simp [Op.operands]), hfg b (by simp [Op.operands])]
    case build t ps =>
      simp only
      have : (ps.toList.map fun p => (p.1, f p.2)) = ps.toList.map fun p => (p.1, g p.2) := List.map_congr_left fun p hp => by
        rw [hfg p.2 (by simp only [Op.operands]; exact List.mem_map_of_mem hp)]
      rw [this]
    case load t a => simp only; rw [hfg a (by simp [Op.operands])]
    case nilCheck a => simp only; rw [hfg a (by simp [Op.operands])]
    case binOp o t x y ty => simp only; rw [hfg x (by simp [Op.operands]), hfg y (by simp [Op.operands])]
    case unOp o t x => simp only; rw [hfg x (by simp [Op.operands])]
    case convert s d x => simp only; rw [hfg x (by simp [Op.operands])]
    case makeFunc fn a b =>
      cases fn <;> simp only
      rw [hmap a.toList (fun x hx => by simp only [Op.operands, Array.toList_append]; exact List.mem_append_left _ hx), hmap b.toList (fun x hx => by simp only [Op.operands, Array.toList_append]; exact List.mem_append_right _ hx)]
    case slice t x lo hi mx =>
      simp only
      have hlo : ∀ y, lo = some y → f y = g y := fun y hy => hfg y (by subst hy; simp [Op.operands])
      have hhi : ∀ y, hi = some y → f y = g y := fun y hy => hfg y (by subst hy; simp [Op.operands])
      have hmx : ∀ y, mx = some y → f y = g y := fun y hy => hfg y (by subst hy; simp [Op.operands])
      have e1 : lo.map f = lo.map g := by
        cases lo with
        | none => rfl
        | some y => exact congrArg some (hlo y rfl)
      have e2 : hi.map f = hi.map g := by
        cases hi with
        | none => rfl
        | some y => exact congrArg some (hhi y rfl)
      have e3 : mx.map f = mx.map g := by
        cases mx with
        | none => rfl
        | some y => exact congrArg some (hmx y rfl)
      rw [e1, e2, e3, hfg x (by simp [Op.operands])]
    case fieldAddr s x i => simp only; rw [hfg x (by simp [Op.operands])]
    case field s x i => simp only; rw [hfg x (by simp [Op.operands])]
    case indexAddr t x i => simp only; rw [hfg x (by simp [Op.operands]), hfg i (by simp [Op.operands])]
    case index t x i => simp only; rw [hfg x (by simp [Op.operands]), hfg i (by simp [Op.operands])]
    case extract x i => simp only; rw [hfg x (by simp [Op.operands])]
    case call c =>
      obtain ⟨callee, args, tys⟩ := c
      cases callee with
      | builtin b =>
        simp only
        rw [hmap args.toList (fun x hx => by simpa [Op.operands, Call.operands] using hx)]
      | value x => simp only at hst; cases hst
      | invoke x n => simp only at hst; cases hst
  unfold evStill
  split
  · rename_i x args tys
    rw [hfg x (by simp [Op.operands, Call.operands]), hmap args.toList (fun y hy => by simp only [Op.operands, Call.operands, Array.toList_append]; exact List.mem_append_right _ hy)]
  · split
    · rename_i hst; rw [hop hst]
    · rfl

/-! ### The calls of such a region -/
def StillOK (E : Env) (P : Program) (callS : List Blk → CallS) : Prop :=
  ∀ (f : FuncId) (args : List AV) (st : St) (v : AV) (B : Base) (X : Ctx) (a : Act) (vargs : List Value), Sim E B X st a → RepL X args vargs → (callS st.h f args).run = some v →
    (∀ w, (callFunc f vargs.toArray).run P w = .ok (.enter f vargs.toArray) w) ∧
    Calls P f vargs.toArray X.w fun e w' => ∃ u X', e = .returned u ∧ X'.w = w' ∧ Rep X' v u ∧ Sim E B X' st a
def Blk.isFrzB : Blk → Bool
  | .frz _ _ _ => true
  | _ => false
/-- one place more changes no such call -/
def StillMono (callS : List Blk → CallS) : Prop := ∀ (h : List Blk) (z : Blk), z.isFrzB = false → ∀ (f : FuncId) (args : List AV) (v : AV), (callS h f args).run = some v → (callS (h ++ [z]) f args).run = some v

def Env.specs (E : Env) (P : Program) : Prop := ∀ x, x ∈ E.spec → Spec P E.glob x.1 x.2

theorem freezeL_of_frz : ∀ (l : List Nat) (h : List Blk), l.all (isFrz h) = true → freezeL h l = h
  | [], _, _ => rfl
  | b :: l, h, hl => by
    simp only [List.all_cons, Bool.and_eq_true] at hl
    have : freeze1 h b = h := by
      unfold freeze1
      have := hl.1
      unfold isFrz at this
      split at this
      · rename_i hb; rw [hb]
      · cases this
    simp only [freezeL, this]
    exact freezeL_of_frz l h hl.2

theorem callStill_ok {E : Env} {P : Program} (hS : E.specs P) : StillOK E P (callStill E) := by
  intro f args st v B X a vargs hsim hargs h
  unfold callStill at h
  cases hf : E.spec.find? fun x => x.1 == f with
  | none => rw [hf] at h; cases h
  | some G =>
    rw [hf] at h
    have hG := hS G (List.mem_of_find?_eq_some hf)
    have hfe : G.1 = f := by simpa using List.find?_some hf
    simp only at h
    split at h
    · rename_i hc
      obtain ⟨r, h1, h2⟩ := bind_some h
      have hr2 : r.2 = [] ∧ (r.1.men) = [] ∧ v = r.1 := by
        split at h2
        · rename_i he
          split at h2
          · rename_i hm; cases h2; exact ⟨he, by simpa using hm, rfl⟩
          · cases h2
        · cases h2
      obtain ⟨q1, q2, rfl⟩ := hr2
      have hfz : freezeL st.h (args.flatMap vecsOf) = st.h := freezeL_of_frz _ _ hc.1
      have hmen : AV.menL (AV.lendL st.h args) = [] := by simpa using hc.2
      have hcs : (callSpec G.2 args st).run = some (r.1, st) := by
        unfold callSpec
        have hpr : prepCall st.h args = st.h := by
          unfold prepCall
          simp only [hfz, hmen, cellVecs, freezeL, lendAt]
        simp only [hpr, hmen, dedup, takeBlks]
        rw [AV.renL_of_men _ _ hmen, Tree.run_bind, h1]
        simp only [Option.bind_some, putBlks, q1, List.length_nil, List.drop_nil, List.map_nil, List.append_nil]
        rw [AV.ren_of_men _ _ q2]
        rfl
      rw [hfe] at hG
      refine ⟨hG.1 _, ?_⟩
      exact callSpec_sound hG hsim hargs hcs
    · cases h

/-! ### One operation -/
theorem evStill_sound {E : Env} {P : Program} (hE : E.tok P) {callS : List Blk → CallS} (hc : StillOK E P callS) {B : Base} {X : Ctx} {st : St} {a : Act} (hs : Sim E B X st a) {o : Oper} {av : AV}
    (h : (evStill E (callS st.h) st.h (E.opd st.t) o.op).run = some av) {next : Act → World → Prop} {Q : Exit → Act → World → Prop}
    (hq : ∀ X' v, Sim E B X' st a → Rep X' av v → next (a.put o.dst v) X'.w) : o.wp P a X.w next Q := by
  unfold evStill at h
  split at h
  · rename_i x args tys hop
    cases hx : E.opd st.t x with
    | fn f first caps =>
      rw [hx] at h
      have hv := rep_opd hs x
      rw [hx] at hv
      generalize hev : a.eval x = vx at hv
      cases hv with
      | fn _ _ _ vf vc q1 q2 =>
        have hargs := repL_opds hs args.toList
        have hall : RepL X (first ++ args.toList.map (E.opd st.t) ++ caps) (vf ++ args.toList.map a.eval ++ vc) := (q1.append hargs).append q2
        obtain ⟨g1, g2⟩ := hc f _ st av B X a _ hs hall h
        unfold Oper.wp
        have hrun : (execOp a.eval o).run P X.w = .ok (.enter f (vf ++ args.toList.map a.eval ++ vc).toArray) X.w := by
          simp only [execOp, hop, resolve, hev, Deferred.ofValue, Sem.run_bind, Sem.run_pure, Result.andThen_ok, invoke]
          have : vf.toArray ++ args.map a.eval ++ vc.toArray = (vf ++ args.toList.map a.eval ++ vc).toArray := by
            apply Array.ext'; simp
          rw [this]
          exact g1 X.w
        rw [hrun]
        refine g2.mono fun e w' ⟨v, X', e1, e2, e3, e4⟩ => ?_
        subst e1 e2
        exact hq X' _ e4 e3
    | _ => rw [hx] at h; cases h
  · split at h
    · rename_i hst
      obtain ⟨r, h1, h2⟩ := bind_some h
      cases h2
      have hr2 := evOp_still hst h1
      obtain ⟨nx, v, X', g1, g2, g3, g4, g5⟩ := evOp_good hE hs h1
      have hrn : r.2.2 = none := by rw [hr2]
      rw [hrn] at g5
      have hXh : X'.h = st.h := by rw [g5.1, hr2]
      have hs' : Sim E B X' st a := by
        have := hs.ext g5.2 g4
        rw [hXh] at this
        exact this
      unfold Oper.wp
      rw [g1]
      rcases g2 with rfl | ⟨rfl, rfl⟩
      · exact hq X' _ hs' g3
      · exact hq X' _ hs' g3
    · cases h

/-- a world that differs in its draws alone -/
theorem Sim.drawn {E : Env} {B : Base} {X : Ctx} {st : St} {a : Act} (hs : Sim E B X st a) (n : Nat) : Sim E B { X with w := { X.w with drawn := n } } st a := by
  have hx : Ext X { X with w := { X.w with drawn := n } } :=
    Move.of (fun _ h => h) (fun _ _ => rfl) (fun b b' hb h => by cases h; exact ⟨hb, rfl, fun _ _ h => h, fun _ _ _ _ _ c T fr h => ⟨c, T, fr, h, rfl⟩⟩)
  have h0 := hs.hs
  have hs' : HSim B { X with w := { X.w with drawn := n } } :=
    ⟨fun b k hk => BlkRep.ext hx rfl (fun _ _ => rfl) (h0.blk b k hk), h0.inj, h0.notM, h0.ltM, h0.M0, h0.newM, h0.os, h0.tape, h0.output, h0.size, h0.frame, h0.imps, h0.impc, h0.fresh, h0.kept⟩
  have := hs.ext hx hs'
  have e : ({ st with h := X.h } : St) = st := by rw [hs.h]
  exact e ▸ this

end Go.Eng
