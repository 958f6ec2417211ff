/- ENGINE D. One operation: all kinds together. -/
import Derived.Test.YtjebekbdjlooiaaEngCB
namespace Go.Eng

theorem Move.transl {X Y Z : Ctx} {f : Nat → Option Nat} (h : Ext X Y) (k : Move Y Z f) : Move X Z f := by
  refine Move.of (fun n hn => k.M n (h.M n hn)) (fun a ha => (k.w a (h.M _ ha)).trans (h.w a ha)) (fun b1 b2 hb1 hf => ?_) (k.y.trans h.y) (k.kept.trans h.kept)
  have k1 := h.b b1 b1 hb1 rfl
  have k2 := k.b b1 b2 k1.lt hf
  refine ⟨k2.lt, k2.σ.trans k1.σ, fun sh m hv => k1.vec sh m (k2.vec sh m hv), fun sh m hv n hn c T fr hc => ?_⟩
  obtain ⟨c1, T1, fr1, e1, e2⟩ := k1.size sh m (k2.vec sh m hv) n hn c T fr hc
  obtain ⟨c2, T2, fr2, e3, e4⟩ := k2.size sh m hv n (by rw [k1.σ]; exact hn) c1 T1 fr1 e1
  exact ⟨c2, T2, fr2, e3, e4.trans e2⟩

theorem OpGood.frozen {P : Program} {B : Base} {X X1 : Ctx} {h' : List Blk} {m : Sem Next} {r : Res} (fz : Frozen B X X1 h') (h : OpGood P B X1 m r) : OpGood P B X m r := by
  obtain ⟨nx, v, X', g1, g2, g3, g4, g5⟩ := h
  refine ⟨nx, v, X', by rw [← fz.w]; exact g1, g2, g3, g4, ?_⟩
  cases hn : r.2.2 with
  | none => rw [hn] at g5; exact ⟨g5.1, fz.ext.trans g5.2⟩
  | some b => rw [hn] at g5; exact ⟨g5.1, Move.transl fz.ext g5.2⟩

theorem src_frz {P : Program} {B : Base} {X : Ctx} (hs : HSim B X) {x : AV} {vx : Value} (h2 : Rep X x vx) {sh : List Sh} {m : R} (hm : rowsOf X.h x = some (sh, m)) :
    ∃ X1, Frozen B X X1 (frzArg X.h x) ∧ Src P X1 sh m vx := by
  cases h2 with
  | imm sh' l v himm =>
    simp only [rowsOf, Option.some.injEq, Prod.mk.injEq] at hm
    obtain ⟨rfl, rfl⟩ := hm
    exact ⟨X, ⟨rfl, rfl, rfl, hs, Ext.refl X⟩, src_of_imm himm⟩
  | vec b p n c hb hv =>
    obtain ⟨e0, hh⟩ := rowsOf_vec hm
    obtain ⟨X1, fz⟩ := freeze1_good hs b
    have hfr : X1.h[b]? = some (.frz e0 sh m) := by rw [fz.h]; exact freeze1_self hh
    exact ⟨X1, fz, src_of_imm (imm_of_frz fz.hs hfr ((Rep.vec b p n c hb hv).ext fz.ext))⟩
  | _ => simp [rowsOf] at hm

theorem evApp1_good {P : Program} {B : Base} {X : Ctx} (hs : HSim B X) {t e ty : TypeId} {sh : List Sh} {s x : AV} {vs vx : Value} {i : TypeInfo} {z : Value} (ht : P.underlying t = some (.slice e)) (hc2 : 0 < P.cellsOf e)
    (hc1 : sh.length = P.cellsOf e) {rm : Int} (he : ElemOk rm P e (P.cellsOf e) i z) (h1 : Rep X s vs) (h2 : Rep X x vx) {r : Res} (hh : (evApp1 rm X.h e sh s x).run = some r) :
    OpGood P B X (do pure (.value (← Builtin.append_ #[t, t] ty #[vs, vx]))) r := by
  unfold evApp1 at hh
  cases hr : rowsOf X.h x with
  | none => rw [hr] at hh; cases hh
  | some q =>
    obtain ⟨sh', m⟩ := q
    rw [hr] at hh
    simp only at hh
    by_cases hbq : Sh.beqL sh sh' = true
    · rw [if_pos hbq] at hh
      obtain rfl := Sh.beqL_eq _ _ hbq
      obtain ⟨X1, fz, hsrc⟩ := src_frz (P := P) hs h2 hr
      have hlen : X1.h.length = X.h.length := by
        rw [fz.h]; cases x <;> simp [frzArg, freeze1_length]
      cases h1 with
      | nils =>
        simp only at hh
        obtain ⟨g1, g2⟩ := br_run hh
        cases g2
        have := append_nil_good (ty := ty) fz.hs ht hc2 hc1 he hsrc (of_decide_eq_true g1)
        rw [hlen, fz.h] at this
        exact this.frozen fz
      | vec b p n c hb hv =>
        simp only at hh
        cases hbk : X.h[b]? with
        | none => rw [hbk] at hh; cases hh
        | some k =>
          rw [hbk] at hh
          cases k <;> try (cases hh)
          rename_i e' sh'' l
          simp only at hh
          by_cases hq : Sh.beqL sh sh'' = true ∧ e = e'
          · rw [if_pos hq] at hh
            obtain rfl := Sh.beqL_eq _ _ hq.1
            obtain rfl := hq.2
            have hrep : Rep X (.vec b) (.slice p n c) := .vec b p n c hb hv
            by_cases hxv : ∃ b', x = AV.vec b'
            · obtain ⟨b', rfl⟩ := hxv
              simp only [evApp2] at hh
              by_cases hbb : b = b'
              · rw [if_pos hbb] at hh; cases hh
              rw [if_neg hbb] at hh
              obtain ⟨g1, g2⟩ := br_run hh
              cases g2
              have hb1 : X1.h[b]? = some (.vec e sh l) := by
                rw [fz.h]; simp only [frzArg, freeze1]
                split
                · rw [List.getElem?_set_ne (Ne.symm hbb)]; exact hbk
                · exact hbk
              have := append_vec_good (ty := ty) fz.hs ht hc2 hc1 he hb1 (hrep.ext fz.ext) hsrc (of_decide_eq_true g1)
              rw [fz.h] at this
              exact this.frozen fz
            · have hh' : (Tree.br (ile (rlen l + rlen m) rm) (.leaf ((.vec b, X.h.set b (.vec e sh (rapp l m)), some b) : Res)) .fail).run = some r := by
                cases x <;> first | exact hh | exact absurd ⟨_, rfl⟩ hxv
              obtain ⟨g1, g2⟩ := br_run hh'
              cases g2
              have hx1 : X1.h = X.h := by rw [fz.h]; cases x <;> first | rfl | exact absurd ⟨_, rfl⟩ hxv
              have := append_vec_good (ty := ty) fz.hs ht hc2 hc1 he (by rw [hx1]; exact hbk) (hrep.ext fz.ext) hsrc (of_decide_eq_true g1)
              rw [hx1] at this
              exact this.frozen fz
          · rw [if_neg hq] at hh; cases hh
      | _ => simp only at hh; cases hh
    · rw [if_neg hbq] at hh; cases hh

theorem evAppend_good {E : Env} {P : Program} (hE : E.tok P) {B : Base} {X : Ctx} (hs : HSim B X) {t ty : TypeId} {s x : AV} {vs vx : Value} (h1 : Rep X s vs) (h2 : Rep X x vx) {r : Res}
    (h : (evAppend E X.h t s x).run = some r) : OpGood P B X (do pure (.value (← Builtin.append_ #[t, t] ty #[vs, vx]))) r := by
  unfold evAppend at h
  cases hd : (E.ty t).d <;> rw [hd] at h <;> try (cases h)
  rename_i e es
  obtain ⟨ht, rfl⟩ := ty_slice hE hd
  simp only at h
  cases hsh : E.shape 16 e with
  | none => rw [hsh] at h; cases h
  | some sh =>
    rw [hsh] at h
    simp only at h
    by_cases hc : sh.length = P.cellsOf e ∧ 0 < P.cellsOf e ∧ (E.ty e).zero.length = P.cellsOf e
    · rw [if_pos hc] at h
      obtain ⟨hc1, hc2, hc4⟩ := hc
      obtain ⟨i, z, he⟩ := elemOk hE hc2 hc4
      cases x with
      | nils =>
        simp only at h
        cases h1 <;> simp only [okv] at h <;> cases h
        cases h2
        exact OpGood.ofV hs (run_append_nothing ht hc2 (Nat.le_refl 0)) .nils
      | _ => exact evApp1_good hs ht hc2 hc1 he h1 h2 h
    · rw [if_neg hc] at h; cases h

/-! ### Operands -/
inductive RepLL (X : Ctx) : List (List AV) → List (List Value) → Prop
  | nil : RepLL X [] []
  | cons {a : List AV} {v : List Value} {l : List (List AV)} {m : List (List Value)} (h : RepL X a v) (t : RepLL X l m) : RepLL X (a :: l) (v :: m)

theorem RepLL.ren {X X' : Ctx} {f : Nat → Option Nat} (hm : Move0 X X' f) : ∀ {l : List (List AV)} {m : List (List Value)}, RepLL X l m → RepLL X' (l.map (AV.renL f)) m
  | _, _, .nil => .nil
  | _, _, .cons h t => .cons (h.ren hm) (t.ren hm)

theorem RepLL.ext {X X' : Ctx} (hm : Ext X X') : ∀ {l : List (List AV)} {m : List (List Value)}, RepLL X l m → RepLL X' l m
  | _, _, .nil => .nil
  | _, _, .cons h t => .cons (h.ext hm) (t.ext hm)

theorem RepLL.ext0 {X X' : Ctx} (hm : Move0 X X' some) : ∀ {l : List (List AV)} {m : List (List Value)}, RepLL X l m → RepLL X' l m
  | _, _, .nil => .nil
  | _, _, .cons h t => .cons (h.ext0 hm) (t.ext0 hm)

/-- the mark of a range over a function among the deferred calls -/
def markOf (D : Nat) : Deferred := { target := .collected D, args := #[] }
def Marks (kept pin : List (Nat × Obj)) (ds : List Deferred) : Prop :=
  ∃ Ds : List Nat, ds = Ds.map markOf ∧ Ds.Nodup ∧ ∀ D, D ∈ Ds → (D, .deferred (some [])) ∈ kept ∧ ∀ p, p ∈ pin → p.1 ≠ D
theorem Marks.nil {kept pin : List (Nat × Obj)} : Marks kept pin [] := ⟨[], rfl, .nil, fun _ h => by cases h⟩
def GlobOk (gl : List (Nat × AV)) (X : Ctx) : Prop := ∀ x, x ∈ gl → (∃ sh l i off, x.2 = .eptr sh l i off) ∧ Rep X x.2 (.pointer (some ⟨x.1, 0, none⟩))

structure Sim (E : Env) (B : Base) (X : Ctx) (st : St) (a : Act) : Prop where
  hs : HSim B X
  h : X.h = st.h
  t : RepL X st.t a.tmps.toList
  fs : RepLL X st.fs B.fs
  glob : ∀ x, x ∈ E.glob → (∃ sh l i off, x.2 = .eptr sh l i off) ∧ Rep X x.2 (.pointer (some ⟨x.1, 0, none⟩))
  df : Marks X.kept (B.pin st.pend) a.defers
  ni : B.imps.length ≤ E.nimp
  y : X.y = B.y
  pin : ∀ p, p ∈ B.pin st.pend → p ∈ X.kept

theorem rep_opd {E : Env} {B : Base} {X : Ctx} {st : St} {a : Act} (hs : Sim E B X st a) (x : Operand) : Rep X (E.opd st.t x) (a.eval x) := by
  cases x with
  | tmp i =>
    have := hs.t.getD i
    simpa [Env.opd, Act.eval, Array.getD_eq_getD_getElem?, List.getD_eq_getElem?_getD] using this
  | const v => exact rep_ofV X v
  | global g =>
    simp only [Env.opd, Act.eval]
    cases hg : E.glob.find? fun x => x.1 == g with
    | none => exact .undef _
    | some x =>
      have h1 := List.find?_some hg
      have h2 : x.1 = g := by simpa using h1
      have := (hs.glob x (List.mem_of_find?_eq_some hg)).2
      rw [h2] at this
      exact this
  | func f => exact .fn f [] [] [] [] .nil .nil

theorem repL_opds {E : Env} {B : Base} {X : Ctx} {st : St} {a : Act} (hs : Sim E B X st a) : ∀ l : List Operand, RepL X (l.map (E.opd st.t)) (l.map a.eval)
  | [] => .nil
  | x :: l => .cons (rep_opd hs x) (repL_opds hs l)

theorem repP_opds {E : Env} {B : Base} {X : Ctx} {st : St} {a : Act} (hs : Sim E B X st a) : ∀ l : List (Nat × Operand), RepP X (l.map fun p => (p.1, E.opd st.t p.2)) (l.map fun p => (p.1, a.eval p.2))
  | [] => .nil
  | (_, x) :: l => .cons (rep_opd hs x) (repP_opds hs l)

theorem repO_opd {E : Env} {B : Base} {X : Ctx} {st : St} {a : Act} (hs : Sim E B X st a) (x : Option Operand) : RepO X (x.map (E.opd st.t)) (x.map a.eval) := by
  cases x with
  | none => exact .none
  | some x => exact .some (rep_opd hs x)

theorem evBMM_good {P : Program} {B : Base} {X : Ctx} (hs : HSim B X) {f : Int → Int → Int} {g : Value → Value → Sem Value} (hg : ∀ k k' x y w, (g (.int k x) (.int k' y)).run P w = .ok (.int k (f x y)) w)
    {as : List AV} {vs : List Value} (hv : RepL X as vs) {r : Res} (h : (evBMM f X.h as).run = some r) {m : Sem Value} (hm : ∀ x rest, vs = x :: rest → m = rest.foldlM g x) : OpGood P B X (do pure (.value (← m))) r := by
  cases hv with
  | nil => cases h
  | cons hx ht =>
    rename_i a v as vs
    simp only [evBMM] at h
    cases h1 : asI a with
    | none => rw [h1] at h; cases h
    | some p =>
      obtain ⟨k, n⟩ := p
      rw [h1] at h
      simp only at h
      cases h2 : foldI f k n as with
      | none => rw [h2] at h; cases h
      | some q =>
        rw [h2] at h
        simp only at h
        obtain rfl := rep_asI hx h1
        have hr := foldI_sound (P := P) hg k as n q vs h2 ht
        rw [hm _ _ rfl]
        split at h <;> cases h
        · exact OpGood.ofV hs hr (.ilit _ _)
        · exact OpGood.ofV hs hr (.int _ _)

theorem evBuiltin_good {E : Env} {P : Program} (hE : E.tok P) {B : Base} {X : Ctx} (hs : HSim B X) {b : Builtin} {ts : Array TypeId} {as : List AV} {vs : List Value} (hv : RepL X as vs) {r : Res}
    (h : (evBuiltin E X.h b ts.toList as).run = some r) (ty : TypeId) (cs : Array Bool) : OpGood P B X (builtin b ts ty cs vs.toArray) r := by
  obtain ⟨ts⟩ := ts
  cases b with
  | append =>
    simp only [evBuiltin] at h
    unfold evBAppend at h
    split at h
    · rename_i t t' s x
      by_cases htt : t = t'
      · subst htt
        rw [if_pos rfl] at h
        cases hv with
        | cons h1 hv => cases hv with
          | cons h2 hv => cases hv; exact evAppend_good hE hs h1 h2 h
      · rw [if_neg htt] at h; cases h
    · cases h
  | len =>
    simp only [evBuiltin] at h
    unfold evBLen at h
    split at h
    · rename_i t rest x
      cases hv with
      | cons h1 hv =>
        cases hv
        obtain ⟨av, u, rfl, g1, g2⟩ := evLen_sound (P := P) (t := t) (ty := ty) (ts := (t :: rest : List TypeId).toArray) hE hs (by simp) h1 h
        exact OpGood.ofV hs g1 g2
    · cases h
  | max =>
    simp only [evBuiltin] at h
    exact evBMM_good hs (f := imax) (g := Builtin.max2) (fun _ _ _ _ _ => max2_int) hv h (m := Builtin.max_ ts.toArray ty vs.toArray) (fun x rest e => by subst e; rfl)
  | min =>
    simp only [evBuiltin] at h
    exact evBMM_good hs (f := imin) (g := Builtin.min2) (fun _ _ _ _ _ => min2_int) hv h (m := Builtin.min_ ts.toArray ty vs.toArray) (fun x rest e => by subst e; rfl)
  | copy =>
    simp only [evBuiltin] at h
    exact evCopyB_good hE hs hv h ty
  | _ => simp only [evBuiltin] at h; cases h

/-- an operation that is no call of a Go function -/
theorem evOp_good {E : Env} {P : Program} (hE : E.tok P) {B : Base} {X : Ctx} {st : St} {a : Act} (hs : Sim E B X st a) {o : Oper} {r : Res}
    (h : (evOp E st.h (E.opd st.t) o.op).run = some r) : OpGood P B X (execOp a.eval o) r := by
  have ro := rep_opd hs
  rw [← hs.h] at h
  unfold evOp at h
  unfold execOp
  cases hop : o.op with
  | move x => rw [hop] at h; cases h; exact OpGood.val hs.hs rfl (ro x)
  | assign x => rw [hop] at h; cases h; exact OpGood.val hs.hs rfl (ro x)
  | pick c x y =>
    rw [hop] at h
    simp only at h ⊢
    have hc := ro c
    generalize E.opd st.t c = ac at *
    generalize a.eval c = vc at *
    cases hc <;> simp only at h <;> try (cases h)
    · rename_i b
      refine OpGood.val hs.hs (v := if b then a.eval x else a.eval y) rfl ?_
      cases b <;> exact ro _
    · rename_i b
      cases b
      · cases h; exact OpGood.val hs.hs (v := a.eval y) rfl (ro y)
      · cases h; exact OpGood.val hs.hs (v := a.eval x) rfl (ro x)
  | box t x =>
    rw [hop] at h
    simp only at h ⊢
    obtain ⟨z, hz, rfl⟩ := newBlk_run h
    exact box_goodB hs.hs (ro x) hz
  | alloc t =>
    rw [hop] at h
    simp only at h ⊢
    obtain ⟨z, hz, rfl⟩ := newBlk_run h
    exact alloc_goodB hE hs.hs hz
  | load t x =>
    rw [hop] at h
    obtain ⟨av, u, rfl, g1, g2⟩ := evLoadB_sound hE hs.hs (ro x) h
    exact OpGood.ofV hs.hs g1 g2
  | store t x y => rw [hop] at h; exact evStoreB_good hE hs.hs (ro x) (ro y) h
  | build t parts =>
    rw [hop] at h
    obtain ⟨av, u, rfl, g1, g2⟩ := evBuildB_sound (vparts := parts.map fun p => (p.1, a.eval p.2)) hE (by simpa using repP_opds hs parts.toList) h
    exact OpGood.ofV hs.hs g1 g2
  | buildSlice t len parts =>
    rw [hop] at h
    have h : (evBuildSlice E X.h t len (parts.toList.map fun p => (p.1, E.opd st.t p.2))).run = some r := h
    have hp : RepP X (parts.toList.map fun p => (p.1, E.opd st.t p.2)) (parts.map fun p => (p.1, a.eval p.2)).toList := by
      rw [Array.toList_map]; exact repP_opds hs parts.toList
    have hg := evBuildSlice_good hE hs.hs hp h
    exact hg
  | nilCheck x =>
    rw [hop] at h
    simp only at h ⊢
    have hx := ro x
    generalize E.opd st.t x = ax at *
    generalize a.eval x = vx at *
    cases hx <;> simp only at h <;> try (cases h)
    · rename_i b off n hb hσ
      split at h
      · cases h; exact OpGood.val hs.hs rfl (.ptr b off n hb hσ)
      · cases h; exact OpGood.val hs.hs rfl (.ptr b off n hb hσ)
      · cases h
    · rename_i sh l i off ad h1 h2 h3 h4
      exact OpGood.val hs.hs rfl (.eptr sh l i off ad h1 h2 h3 h4)
    · rename_i sh l i off ad h1 h2 h3 h4
      exact OpGood.val hs.hs rfl (.eptr sh l i off ad h1 h2 h3 h4)
  | binOp op t x y ty =>
    rw [hop] at h
    simp only at h ⊢
    have hx := ro x
    have hy := ro y
    generalize E.opd st.t x = ax at *
    generalize E.opd st.t y = ay at *
    unfold evBinOp at h
    split at h
    · obtain ⟨av, u, rfl, g1, g2⟩ := evEqAgg_sound (x := x) (y := y) hE hx hy h
      exact OpGood.ofV hs.hs g1 g2
    · obtain ⟨av, u, rfl, g1, g2⟩ := evBin_sound (x := x) (y := y) hE hs.hs hx hy h
      exact OpGood.ofV hs.hs g1 g2
  | unOp op t x =>
    rw [hop] at h
    obtain ⟨av, u, rfl, g1, g2⟩ := evUn_sound (P := P) (ro x) h
    exact OpGood.ofV hs.hs g1 g2
  | convert s d x =>
    rw [hop] at h
    obtain ⟨av, u, rfl, g1, g2⟩ := evConvB_sound hE hs.hs (ro x) h
    exact OpGood.ofV hs.hs g1 g2
  | makeSlice t n m => rw [hop] at h; exact evMake_good hE hs.hs (ro n) (ro m) h
  | makeFunc fn first caps =>
    rw [hop] at h
    simp only at h ⊢
    cases fn <;> simp only at h <;> try (cases h)
    rename_i f
    have : Rep X (.fn f (first.toList.map (E.opd st.t)) (caps.toList.map (E.opd st.t))) (.func (.func f) (first.toList.map a.eval).toArray (caps.toList.map a.eval).toArray) :=
      .fn f _ _ _ _ (repL_opds hs _) (repL_opds hs _)
    refine OpGood.val hs.hs (v := .func (.func f) (first.map a.eval) (caps.map a.eval)) rfl ?_
    have e1 : (first.toList.map a.eval).toArray = first.map a.eval := by apply Array.ext'; simp
    have e2 : (caps.toList.map a.eval).toArray = caps.map a.eval := by apply Array.ext'; simp
    rwa [e1, e2] at this
  | slice t x lo hi mx =>
    rw [hop] at h
    exact evSliceB_good hE hs.hs (ro x) (repO_opd hs lo) (repO_opd hs hi) (repO_opd hs mx) h
  | fieldAddr s x f =>
    rw [hop] at h
    obtain ⟨av, u, rfl, g1, g2⟩ := evFieldAddr_sound hE (ro x) h
    exact OpGood.ofV hs.hs g1 g2
  | field s x f =>
    rw [hop] at h
    obtain ⟨av, u, rfl, g1, g2⟩ := evField_sound hE (ro x) h
    exact OpGood.ofV hs.hs g1 g2
  | indexAddr t x i =>
    rw [hop] at h
    obtain ⟨av, u, rfl, g1, g2⟩ := evIndexAddrB_sound hE hs.hs (ro x) (ro i) h
    exact OpGood.ofV hs.hs g1 g2
  | index t x i =>
    rw [hop] at h
    obtain ⟨av, u, rfl, g1, g2⟩ := evIndex_sound hE (ro x) (ro i) h
    exact OpGood.ofV hs.hs g1 g2
  | extract x i =>
    rw [hop] at h
    simp only at h ⊢
    have hx := ro x
    generalize E.opd st.t x = ax at *
    generalize a.eval x = vx at *
    cases hx <;> simp only at h <;> try (cases h)
    rename_i vs us hv
    cases hi : vs[i]? with
    | none => rw [hi] at h; cases h
    | some v =>
      rw [hi] at h; cases h
      obtain ⟨u, g1, g2⟩ := hv.get i v hi
      refine OpGood.ofV hs.hs (v := u) ?_ g2
      simp [Instr.extract, g1]
  | call c =>
    rw [hop] at h
    obtain ⟨callee, args, argTypes⟩ := c
    cases callee with
    | value x => simp only at h; cases h
    | invoke x n => simp only at h; cases h
    | builtin b =>
      simp only at h ⊢
      have hargs := repL_opds hs args.toList
      have hrun : ∀ ty, (do let d ← resolve a.eval { callee := .builtin b, args, argTypes } ty; invoke d.target d.args : Sem Next) =
          builtin b argTypes ty (args.map fun | .const _ => true | _ => false) (args.map a.eval) := by
        intro ty; rfl
      rw [hrun]
      have hA : args.map a.eval = (args.toList.map a.eval).toArray := by apply Array.ext'; simp
      rw [hA]
      generalize args.toList.map (E.opd st.t) = als at *
      generalize args.toList.map a.eval = avs at *
      exact evBuiltin_good hE hs.hs hargs h _ _
  | _ => rw [hop] at h; simp only at h; cases h

end Go.Eng
