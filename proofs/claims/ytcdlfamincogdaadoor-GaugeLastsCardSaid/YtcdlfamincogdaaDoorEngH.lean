/- ENGINE H. Code, bodies, calls. -/
import Derived.Test.YtcdlfamincogdaaDoorEngG5
namespace Go.Eng

def Ex.out : Ex → Exit
  | .normal => .normal
  | .exit i => .exit i
  | .ret => .ret

def Post (E : Env) (B : Base) (r : Ex × St) : Exit → Act → World → Prop := fun e a w => e = r.1.out ∧ ∃ X', X'.w = w ∧ Sim E B X' r.2 a

theorem Sim.env {E E' : Env} (he : E.glob = E'.glob) (hn : E.nimp = E'.nimp) {B : Base} {X : Ctx} {st : St} {a : Act} (hs : Sim E B X st a) : Sim E' B X st a :=
  ⟨hs.hs, hs.h, hs.t, hs.fs, he ▸ hs.glob, hs.df, hn ▸ hs.ni⟩

def loopsL : Code → List Code
  | .seq a b => .seq a b :: (loopsL a ++ loopsL b)
  | .cond _ a b => loopsL a ++ loopsL b
  | .block _ c => loopsL c
  | .scope c => loopsL c
  | .loop c => .loop c :: loopsL c
  | _ => []

theorem loopsL_length : ∀ c : Code, (loopsL c).length = nLoops c := by
  intro c
  induction c <;> simp_all [loopsL, nLoops]
  all_goals omega

theorem findNode_mem {f k : Nat} {L : St → Tree (Ex × St)} : ∀ {l : List ((Nat × Nat) × (St → Tree (Ex × St)))}, findNode l f k = some L → ((f, k), L) ∈ l
  | [], h => by cases h
  | x :: l, h => by
    simp only [findNode] at h
    split at h
    · rename_i hb
      cases h
      simp only [Bool.and_eq_true] at hb
      have h1 := Nat.eq_of_beq_eq_true hb.1
      have h2 := Nat.eq_of_beq_eq_true hb.2
      have : x = ((f, k), x.2) := by obtain ⟨⟨a, b⟩, c⟩ := x; simp only at h1 h2; rw [h1, h2]
      exact this ▸ List.mem_cons_self
    · exact List.mem_cons_of_mem _ (findNode_mem h)

/-- what is shown of a piece of code (a loop, a sequence): from any state in which L has a result, it comes to that -/
def LoopGood (P : Program) (gl : List (Nat × AV)) (ni : Nat) (c : Code) (L : St → Tree (Ex × St)) : Prop :=
  ∀ (E : Env) (B : Base) (X : Ctx) (st : St) (a : Act) (r : Ex × St), E.glob = gl → E.nimp = ni → Sim E B X st a → (L st).run = some r → c.wp P (Post E B r) a X.w

theorem evCode_sound {E : Env} {P : Program} (hm : P.follows .mixedOrders = true) (hE : E.tok P) {callH : CallH} (hcH : CallOK E P callH) {callS : List Blk → CallS} (hc : StillOK E P callS) (hmo : StillMono callS) {B : Base} {f : FuncId} :
    ∀ (c : Code) (k : Nat), (∀ j c', (loopsL c)[j]? = some c' → ∀ x, x ∈ E.loops → x.1 = (f, k + j) → LoopGood P E.glob E.nimp c' x.2) →
    ∀ {X : Ctx} {st : St} {a : Act} {r : Ex × St}, Sim E B X st a → (evCode E callH callS f c k st).run = some r → c.wp P (Post E B r) a X.w
  | .skip, k, _, X, st, a, r, hs, h => by
    simp only [evCode, Tree.run, Option.some.injEq] at h
    subst h
    exact wp_skip ⟨rfl, X, rfl, hs⟩
  | .label _, k, _, X, st, a, r, hs, h => by
    simp only [evCode, Tree.run, Option.some.injEq] at h
    subst h
    exact wp_label ⟨rfl, X, rfl, hs⟩
  | .region id ops draw, k, _, X, st, a, r, hs, h => by
    simp only [evCode] at h
    obtain ⟨s, h1, h2⟩ := bind_some h
    simp only [Tree.run, Option.some.injEq] at h2
    subst h2
    cases draw with
    | true => exact evDraw_sound hm hE hcH hc hmo hs h1 fun X' a' hs' => ⟨rfl, X', rfl, hs'⟩
    | false => exact evRegion_sound hE hcH hs h1 fun X' a' hs' => ⟨rfl, X', rfl, hs'⟩
  | .seq c d, k, hl, X, st, a, r, hs, h => by
    simp only [evCode] at h
    cases hf : findNode E.loops f k with
    | some L =>
      rw [hf] at h
      exact hl 0 (.seq c d) (by simp [loopsL]) _ (findNode_mem hf) rfl E B X st a r rfl rfl hs h
    | none =>
    rw [hf] at h
    obtain ⟨r1, h1, h2⟩ := bind_some h
    apply wp_seq
    have g1 := evCode_sound hm hE hcH hc hmo c (k + 1) (fun j c' hj x hx hx1 => hl (1 + j) c' (by
      simp only [loopsL]; rw [Nat.add_comm, List.getElem?_cons_succ, List.getElem?_append_left (lt_of_get hj)]; exact hj) x hx (by rw [hx1]; congr 1; omega)) hs h1
    refine wp_mono g1 fun e a' w' ⟨he, X', hw, hs'⟩ => ?_
    subst hw
    obtain ⟨x1, s1⟩ := r1
    cases x1 with
    | normal =>
      subst he
      refine evCode_sound hm hE hcH hc hmo d (k + 1 + nLoops c) (fun j c' hj x hx hx1 => hl (1 + nLoops c + j) c' ?_ x hx (by rw [hx1]; congr 1; omega)) hs' h2
      simp only [loopsL]
      rw [show 1 + nLoops c + j = (nLoops c + j) + 1 by omega, List.getElem?_cons_succ, List.getElem?_append_right (by rw [loopsL_length]; omega), loopsL_length]
      rw [show nLoops c + j - nLoops c = j by omega]; exact hj
    | exit i =>
      simp only [Tree.run, Option.some.injEq] at h2
      subst he h2
      exact ⟨rfl, X', rfl, hs'⟩
    | ret =>
      simp only [Tree.run, Option.some.injEq] at h2
      subst he h2
      exact ⟨rfl, X', rfl, hs'⟩
  | .cond x c d, k, hl, X, st, a, r, hs, h => by
    simp only [evCode] at h
    have hlc := fun j c' (hj : (loopsL c)[j]? = some c') => hl j c' (by simp only [loopsL]; rw [List.getElem?_append_left (lt_of_get hj)]; exact hj)
    have hld : ∀ j c', (loopsL d)[j]? = some c' → ∀ x, x ∈ E.loops → x.1 = (f, k + nLoops c + j) → LoopGood P E.glob E.nimp c' x.2 := fun j c' hj x hx hx1 => by
      refine hl (nLoops c + j) c' ?_ x hx (by rw [hx1]; congr 1; omega)
      simp only [loopsL]
      rw [List.getElem?_append_right (by rw [loopsL_length]; omega), loopsL_length]
      rw [show nLoops c + j - nLoops c = j by omega]; exact hj
    have hx := rep_opd hs x
    cases hv : E.opd st.t x with
    | blit b =>
      rw [hv] at h hx
      generalize hev : a.eval x = vx at hx
      cases hx
      cases b with
      | true => exact wp_cond_true hev (evCode_sound hm hE hcH hc hmo c k hlc hs h)
      | false => exact wp_cond_false hev (evCode_sound hm hE hcH hc hmo d _ hld hs h)
    | bool b =>
      rw [hv] at h hx
      generalize hev : a.eval x = vx at hx
      cases hx
      cases x with
      | tmp t =>
        simp only at h
        have ht : st.t[t]? = some (.bool b) := by
          simp only [Env.opd, List.getD_eq_getElem?_getD] at hv
          cases hg : st.t[t]? with
          | none => rw [hg] at hv; cases hv
          | some y => rw [hg] at hv; simp at hv; rw [hv]
        have hs' := hs.lit ht
        cases b with
        | true => exact wp_cond_true hev (evCode_sound hm hE hcH hc hmo c k hlc hs' h)
        | false => exact wp_cond_false hev (evCode_sound hm hE hcH hc hmo d _ hld hs' h)
      | _ => cases h
    | _ => rw [hv] at h; cases h
  | .block id c, k, hl, X, st, a, r, hs, h => by
    simp only [evCode] at h
    obtain ⟨r1, h1, h2⟩ := bind_some h
    apply wp_block
    have g1 := evCode_sound hm hE hcH hc hmo c k hl hs h1
    refine wp_mono g1 fun e a' w' ⟨he, X', hw, hs'⟩ => ?_
    subst hw he
    obtain ⟨x1, s1⟩ := r1
    cases x1 with
    | normal =>
      simp only [Tree.run, Option.some.injEq] at h2
      subst h2
      exact ⟨rfl, X', rfl, hs'⟩
    | ret =>
      simp only [Tree.run, Option.some.injEq] at h2
      subst h2
      exact ⟨rfl, X', rfl, hs'⟩
    | exit i =>
      simp only [Ex.out, Exit.inBlock]
      simp only at h2
      by_cases hi : i = id
      · rw [if_pos hi] at h2 ⊢
        simp only [Tree.run, Option.some.injEq] at h2
        subst h2
        exact ⟨rfl, X', rfl, hs'⟩
      · rw [if_neg hi] at h2 ⊢
        simp only [Tree.run, Option.some.injEq] at h2
        subst h2
        exact ⟨rfl, X', rfl, hs'⟩
  | .loop c, k, hl, X, st, a, r, hs, h => by
    simp only [evCode] at h
    cases hf : findNode E.loops f k with
    | none => rw [hf] at h; cases h
    | some L =>
      rw [hf] at h
      exact hl 0 (.loop c) (by simp [loopsL]) _ (findNode_mem hf) rfl E B X st a r rfl rfl hs h
  | .exit id, k, _, X, st, a, r, hs, h => by
    simp only [evCode, Tree.run, Option.some.injEq] at h
    subst h
    exact wp_exit ⟨rfl, X, rfl, hs⟩
  | .ret, k, _, X, st, a, r, hs, h => by
    simp only [evCode, Tree.run, Option.some.injEq] at h
    subst h
    exact wp_ret ⟨rfl, X, rfl, hs⟩
  | .goto _, k, _, X, st, a, r, hs, h => by simp only [evCode] at h; cases h
  | .scope _, k, _, X, st, a, r, hs, h => by simp only [evCode] at h; cases h
  | .rangeFunc .., k, _, X, st, a, r, hs, h => by simp only [evCode] at h; cases h

/-! ### The end of a body -/
theorem loadAt_addr {P : Program} {w : World} {t : TypeId} {v u : Value} (h : (Instr.loadAt t v).run P w = .ok u w) : ∃ ad, v = .pointer (some ad) ∧ (loadVar t ad).run P w = .ok u w := by
  cases v with
  | pointer p =>
    cases p with
    | some ad => exact ⟨ad, rfl, by simpa [Instr.loadAt, Instr.sureAddr] using h⟩
    | none => simp [Instr.loadAt, Instr.sureAddr] at h
  | _ => simp [Instr.loadAt, Instr.sureAddr] at h

def resF (tmps : Array Value) : ResultVar → Sem Value
  | .tmp t => pure (tmps.getD t undef)
  | .cell a t => do loadVar t (← asAddr (tmps.getD a undef))

theorem results_eq (fn : Func) (tmps : Array Value) : results fn tmps = (fn.results.mapM (resF tmps) >>= fun vs => pure (if h : vs.size = 1 then vs[0] else .tuple vs)) := by
  unfold results
  congr 1

theorem resOf_sound {E : Env} {P : Program} (hE : E.tok P) {B : Base} {X : Ctx} {st : St} {a : Act} (hs : Sim E B X st a) : ∀ (l : List ResultVar) (vs : List AV), resOf E st.h st.t l = some vs →
    ∃ us, (l.mapM (resF a.tmps)).run P X.w = .ok us X.w ∧ RepL X vs us
  | [], vs, h => by simp only [resOf, Option.some.injEq] at h; subst h; exact ⟨[], by simp, .nil⟩
  | .tmp i :: l, vs, h => by
    simp only [resOf] at h
    split at h
    · rename_i r hr
      cases h
      obtain ⟨us, h1, h2⟩ := resOf_sound hE hs l r hr
      have := rep_opd hs (.tmp i)
      simp only [Env.opd, Act.eval] at this
      exact ⟨_ :: us, by simp [List.mapM_cons, resF, h1], .cons this h2⟩
    · cases h
  | .cell i ty :: l, vs, h => by
    simp only [resOf] at h
    split at h
    · rename_i v h' n r hld hr
      cases h
      obtain ⟨us, h1, h2⟩ := resOf_sound hE hs l r hr
      have hv := rep_opd hs (.tmp i)
      simp only [Env.opd, Act.eval] at hv
      rw [← hs.h] at hld
      obtain ⟨av, u, g1, g2, g3⟩ := evLoad_sound hE hs.hs hv (r := (v, h', n)) (by rw [hld]; rfl)
      obtain ⟨ad, g4, g5⟩ := loadAt_addr g2
      have : v = av := congrArg Prod.fst g1
      subst this
      refine ⟨u :: us, ?_, .cons g3 h2⟩
      simp only [List.mapM_cons, resF, Sem.run_bind, g4, asAddr, Sem.run_pure, Result.andThen_ok, g5, h1]
    · cases h

theorem RepL.len {X : Ctx} : ∀ {as : List AV} {vs : List Value}, RepL X as vs → as.length = vs.length
  | _, _, .nil => rfl
  | _, _, .cons _ t => by simp [t.len]

theorem results_sound {E : Env} {P : Program} (hE : E.tok P) {B : Base} {X : Ctx} {st : St} {a : Act} (hs : Sim E B X st a) {fn : Func} {vs : List AV} (h : resOf E st.h st.t fn.results.toList = some vs) :
    ∃ u, (results fn a.tmps).run P X.w = .ok u X.w ∧ Rep X (oneOf vs) u := by
  obtain ⟨us, h1, h2⟩ := resOf_sound hE hs _ _ h
  have hm : (fn.results.mapM (resF a.tmps)).run P X.w = .ok us.toArray X.w := by
    rw [Array.mapM_eq_mapM_toList, Sem.run_map, h1]; rfl
  rw [results_eq, Sem.run_bind, hm]
  simp only [Result.andThen_ok, Sem.run_pure]
  have hl := h2.len
  cases h2 with
  | nil => exact ⟨_, rfl, .tuple [] [] .nil⟩
  | cons g1 g2 =>
    cases g2 with
    | nil => exact ⟨_, rfl, by simpa [oneOf] using g1⟩
    | cons g3 g4 =>
      refine ⟨_, rfl, ?_⟩
      rw [dif_neg (by simp)]
      exact .tuple _ _ (.cons g1 (.cons g3 g4))

theorem initT_rep {X : Ctx} {fn : Func} {args : List AV} {vargs : List Value} (h : RepL X args vargs) : RepL X (initT fn args) (vargs.toArray ++ Array.replicate (fn.ntmps - vargs.toArray.size) undef).toList := by
  have hrep : ∀ n, RepL X (List.replicate n .skip) (List.replicate n undef) := by
    intro n
    induction n with
    | zero => exact .nil
    | succ n ih => simp only [List.replicate_succ]; exact .cons .skip ih
  unfold initT
  simp only [Array.toList_append, Array.toList_replicate, List.size_toArray]
  rw [h.len]
  exact h.append (hrep _)

/-! ### Calls -/
def Env.bodies (E : Env) (P : Program) : Prop := ∀ x, x ∈ E.body → P.funcs[x.1]? = some x.2 ∧ (x.2.name == "runtime.NumGoroutine") = false

def Env.loopsOK (E : Env) (P : Program) : Prop :=
  ∀ x, x ∈ E.loops → ∃ fn c c', P.funcs[x.1.1]? = some fn ∧ fn.body = some c ∧ (loopsL c)[x.1.2]? = some c' ∧ LoopGood P E.glob E.nimp c' x.2

theorem evBody_sound {E : Env} {P : Program} (hm : P.follows .mixedOrders = true) (hE : E.tok P) (hS : E.specs P) (hL : E.loopsOK P) {callH : CallH} (hcH : CallOK E P callH) {f : FuncId} {fn : Func} (hf : P.funcs[f]? = some fn)
    {args : List AV} {st : St} {r : AV × St} {B : Base} {X : Ctx} {a : Act} {vargs : List Value} (hs : Sim E B X st a) (ha : RepL X args vargs) (h : (evBody E callH f fn args st).run = some r) :
    fn.body.isNone = false ∧ Calls P f vargs.toArray X.w fun e w' => ∃ v X', e = .returned v ∧ X'.w = w' ∧ Rep X' r.1 v ∧ Sim E B X' r.2 a := by
  unfold evBody at h
  cases hb : fn.body with
  | none => rw [hb] at h; cases h
  | some c =>
    rw [hb] at h
    refine ⟨rfl, calls_of_wp hf hb ?_⟩
    obtain ⟨r1, h1, h2⟩ := bind_some h
    let B' : Base := { B with fs := a.tmps.toList :: B.fs }
    have h0 := hs.hs
    have hsB : HSim B' X := ⟨h0.blk, h0.inj, h0.notM, h0.ltM, h0.M0, h0.newM, h0.os, h0.tape, h0.output, h0.size, h0.frame, h0.imps, h0.impc, h0.fresh⟩
    have hsim : Sim E B' X { t := initT fn args, fs := st.t :: st.fs, h := st.h } { tmps := vargs.toArray ++ Array.replicate (fn.ntmps - vargs.toArray.size) undef, defers := [] } :=
      ⟨hsB, hs.h, initT_rep ha, .cons hs.t hs.fs, hs.glob, rfl, hs.ni⟩
    have hcode := evCode_sound hm hE hcH (callStill_ok hS) (callStill_mono' E) c 0 (fun j c' hj x hx hx1 => by
      obtain ⟨fn', c1, c2, q1, q2, q3, q4⟩ := hL x hx
      rw [hx1] at q1 q3
      simp only [Nat.zero_add] at q1 q3
      rw [hf] at q1; cases q1
      rw [hb] at q2; cases q2
      rw [hj] at q3; cases q3
      exact q4) hsim h1
    refine wp_mono hcode fun e a' w' ⟨he, X', hw, hs'⟩ => ?_
    subst he hw
    obtain ⟨x1, s1⟩ := r1
    have fin : ∀ {vs : List AV} {caller : List AV} {fs : List (List AV)}, resOf E s1.h s1.t fn.results.toList = some vs → s1.fs = caller :: fs → r = (oneOf vs, { t := caller, fs := fs, h := s1.h }) →
        a'.defers = [] ∧ ∃ v, (results fn a'.tmps).run P X'.w = .ok v X'.w ∧ ∃ v' X'', Ending.returned v = .returned v' ∧ X''.w = X'.w ∧ Rep X'' r.1 v' ∧ Sim E B X'' r.2 a := by
      intro vs caller fs hr hfs hre
      obtain ⟨u, g1, g2⟩ := results_sound hE hs' hr
      refine ⟨hs'.df, u, g1, u, X', rfl, rfl, by rw [hre]; exact g2, ?_⟩
      have hfs' := hs'.fs
      simp only at hfs'
      rw [hfs] at hfs'
      have h3 := hs'.hs
      have hsB' : HSim B X' := ⟨h3.blk, h3.inj, h3.notM, h3.ltM, h3.M0, h3.newM, h3.os, h3.tape, h3.output, h3.size, h3.frame, h3.imps, h3.impc, h3.fresh⟩
      generalize hBf : B'.fs = l at hfs'
      cases hfs' with
      | cons k1 k2 =>
        have e1 : a.tmps.toList :: B.fs = _ := hBf
        cases e1
        rw [hre]
        exact ⟨hsB', hs'.h, k1, k2, hs.glob |> fun _ => hs'.glob, hs.df, hs.ni⟩
    unfold evEnd at h2
    cases x1 with
    | exit i => simp only at h2; cases h2
    | normal =>
      simp only at h2
      split at h2
      · rename_i vs caller fs hr hfs; cases h2; exact fin hr hfs rfl
      · cases h2
    | ret =>
      simp only at h2
      split at h2
      · rename_i vs caller fs hr hfs; cases h2; exact fin hr hfs rfl
      · cases h2

theorem enters_of {P : Program} {f : FuncId} {fn : Func} (hf : P.funcs[f]? = some fn) (hn : (fn.name == "runtime.NumGoroutine") = false) (hb : fn.body.isNone = false) : Enters P f := by
  intro args w
  unfold callFunc
  rw [Sem.run_bind]
  show (Result.ok P w).andThen _ = _
  simp only [Result.andThen_ok, hf, hn, hb, Bool.false_eq_true, if_false, Sem.run_pure]

theorem evCall_ok {E : Env} {P : Program} (hm : P.follows .mixedOrders = true) (hE : E.tok P) (hS : E.specs P) (hL : E.loopsOK P) (hb : E.bodies P) : ∀ n, CallOK E P (evCall E n)
  | 0 => fun f args st r B X a vargs _ _ h => by simp only [evCall] at h; cases h
  | n + 1 => fun f args st r B X a vargs hs ha h => by
    simp only [evCall] at h
    cases hsp : E.spec.find? fun x => x.1 == f with
    | some G =>
      rw [hsp] at h
      have hG := hS G (List.mem_of_find?_eq_some hsp)
      have hfe : G.1 = f := by simpa using List.find?_some hsp
      rw [hfe] at hG
      exact ⟨hG.1 _, callSpec_sound hG hs ha h⟩
    | none =>
      rw [hsp] at h
      cases hbd : E.body.find? fun x => x.1 == f with
      | none => rw [hbd] at h; cases h
      | some fn =>
        rw [hbd] at h
        have hx := hb fn (List.mem_of_find?_eq_some hbd)
        have hfe : fn.1 = f := by simpa using List.find?_some hbd
        rw [hfe] at hx
        obtain ⟨g1, g2⟩ := evBody_sound hm hE hS hL (evCall_ok hm hE hS hL hb n) hx.1 hs ha h
        exact ⟨enters_of hx.1 hx.2 g1 _, g2⟩

/-- what a function's own text says of a call of it -/
theorem evFunc_sound {E : Env} {P : Program} (hm : P.follows .mixedOrders = true) (hE : E.tok P) (hS : E.specs P) (hL : E.loopsOK P) (hb : E.bodies P) {f : FuncId} {fn : Func} (hf : P.funcs[f]? = some fn)
    {n : Nat} {B : Base} {X : Ctx} {args : List AV} {vargs : List Value} {r : AV × List Blk} (hs : HSim B X) (h0 : B.imps.length ≤ E.nimp) (hgl : GlobOk E.glob X) (ha : RepL X args vargs)
    (h : (evFunc E n f fn args X.h).run = some r) :
    Calls P f vargs.toArray X.w fun e w' => ∃ v X', e = .returned v ∧ X'.w = w' ∧ Rep X' r.1 v ∧ X'.h = r.2 ∧ HSim B X' := by
  unfold evFunc at h
  obtain ⟨r1, h1, h2⟩ := bind_some h
  simp only [Tree.run, Option.some.injEq] at h2
  subst h2
  let B0 : Base := { B with fs := [] }
  have hsB : HSim B0 X := ⟨hs.blk, hs.inj, hs.notM, hs.ltM, hs.M0, hs.newM, hs.os, hs.tape, hs.output, hs.size, hs.frame, hs.imps, hs.impc, hs.fresh⟩
  have hsim : Sim E B0 X { t := [], fs := [], h := X.h } { tmps := #[], defers := [] } := ⟨hsB, rfl, .nil, .nil, hgl, rfl, h0⟩
  obtain ⟨_, g2⟩ := evBody_sound hm hE hS hL (evCall_ok hm hE hS hL hb n) hf hsim ha h1
  refine g2.mono fun e w' ⟨v, X', e1, e2, e3, e4⟩ => ⟨v, X', e1, e2, e3, e4.h, ?_⟩
  have h3 := e4.hs
  exact ⟨h3.blk, h3.inj, h3.notM, h3.ltM, h3.M0, h3.newM, h3.os, h3.tape, h3.output, h3.size, h3.frame, h3.imps, h3.impc, h3.fresh⟩

end Go.Eng
