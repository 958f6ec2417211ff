/- ENGINE W. Handles for use. -/
import Derived.Test.YtjebekbdjlooiaaEngV
namespace Go.Eng

def bodyOf (fn : Func) : Code := fn.body.getD .skip
def nodeC (fn : Func) (k : Nat) : Code := ((loopsL (bodyOf fn))[k]?).getD .skip
def loopBody : Code → Code
  | .loop c => c
  | c => c
/-- the function that is ranged over and the statement: how a round is carried out -/
def conY (E : Env) (f : FuncId) (fn : Func) (k : Nat) : CallY := match nodeC fn k with
  | .rangeFunc _ ps a b => yieldT (evCode E (evCall E 9) (callStill E) (evRange E (evCall E 9)) f a (k + 1)) (evCode E (evCall E 9) (callStill E) (evRange E (evCall E 9)) f b (k + 1 + nLoops a)) ps.toList
  | _ => fun _ _ => .fail
/-- calls in a function, which may be one that is ranged over (by the function of fc at kc) -/
def hdl (E : Env) : Option (FuncId × Func × Nat) → CallH
  | none => evCall E 9
  | some (fc, fnc, kc) => withY (conY E fc fnc kc) (evCall E 9)
def rgh (E : Env) : Option (FuncId × Func × Nat) → RangeH
  | none => evRange E (evCall E 9)
  | some _ => noRange
/-- the steps of a loop, of a sequence, of a function -/
def evLoopBody (E : Env) (y : Option (FuncId × Func × Nat)) (f : FuncId) (fn : Func) (k : Nat) (st : St) : Tree (Ex × St) := evCode E (hdl E y) (callStill E) (rgh E y) f (loopBody (nodeC fn k)) (k + 1) st
def stepT (E : Env) (f : FuncId) (fn : Func) (k : Nat) (tin : Tmpl) (outs : List Out) (ps : List PV) : TR := (evLoopBody E none f fn k (tin.make ps)).bind (stepL tin outs)
def stepTY (E : Env) (y : Option (FuncId × Func × Nat)) (f : FuncId) (fn : Func) (k : Nat) (tin : Tmpl) (outs : List Out) (ps : List PV) : TR := (evLoopBody E y f fn k (tin.make ps)).bind (stepL tin outs)
def funcT (E : Env) (f : FuncId) (fn : Func) (fz : Bool) (i : FIn) (outs : List FOut) (ps : List PV) : TR := (evFunc E 9 f fn (i.make ps).1 (i.make ps).2).bind fun q => finF outs 0 (freezeRes fz q)
/-- more rounds than any loop over what a program can hold -/
def rounds : Nat := 2 ^ 70
def loopT (S : List PV → TR) (ps : List PV) : TR := iterT S rounds ps

structure EnvOK (E : Env) (P : Program) : Prop where
  tok : E.tok P
  specs : E.specs P
  loops : E.loopsOK P
  bodies : E.bodies P

theorem tok_of {P : Program} {E : Env} (h : E.tt.map (fun x => mkTI P x.1) = E.tt.map (·.2)) : E.tok P := by
  intro x hx
  have : ∀ (l : List (TypeId × TI)), l.map (fun x => mkTI P x.1) = l.map (·.2) → ∀ x, x ∈ l → mkTI P x.1 = x.2 := by
    intro l
    induction l with
    | nil => intro _ x hx; cases hx
    | cons y l ih =>
      intro h x hx
      simp only [List.map_cons, List.cons.injEq] at h
      rcases List.mem_cons.1 hx with rfl | hx
      · exact h.1
      · exact ih h.2 x hx
  exact this _ h x hx

theorem all_nil {α : Type} {p : α → Prop} : ∀ x, x ∈ ([] : List α) → p x := fun _ h => by cases h
theorem all_cons {α : Type} {p : α → Prop} {a : α} {l : List α} (h : p a) (t : ∀ x, x ∈ l → p x) : ∀ x, x ∈ a :: l → p x := fun x hx => by
  rcases List.mem_cons.1 hx with rfl | hx
  · exact h
  · exact t x hx

theorem body_ok {P : Program} {f : FuncId} {fn : Func} (h : P.funcs[f]? = some fn) (hn : (fn.name == "runtime.NumGoroutine") = false) : P.funcs[(f, fn).1]? = some (f, fn).2 ∧ ((f, fn).2.name == "runtime.NumGoroutine") = false := ⟨h, hn⟩

theorem loop_ok {P : Program} {gl : List (Nat × AV)} {ni : Nat} {f k : Nat} {fn : Func} {L : St → Tree (Ex × St)} (hf : P.funcs[f]? = some fn) (hb : fn.body.isSome = true)
    (hn : ((loopsL (bodyOf fn))[k]?).isSome = true) {it : List (FuncId × FuncId × Nat)} (hg : LoopGood P gl ni (baseOK P it f) (nodeC fn k) L) :
    ∃ fn' c c', P.funcs[((f, k), L).1.1]? = some fn' ∧ fn'.body = some c ∧ (loopsL c)[((f, k), L).1.2]? = some c' ∧ LoopGood P gl ni (baseOK P it ((f, k), L).1.1) c' ((f, k), L).2 := by
  refine ⟨fn, bodyOf fn, nodeC fn k, hf, ?_, ?_, hg⟩
  · unfold bodyOf
    cases h : fn.body with
    | none => rw [h] at hb; cases hb
    | some c => rfl
  · show (loopsL (bodyOf fn))[k]? = some (nodeC fn k)
    unfold nodeC
    cases h : (loopsL (bodyOf fn))[k]? with
    | none => rw [h] at hn; cases hn
    | some c => rfl

def isLoop : Code → Bool
  | .loop _ => true
  | _ => false



theorem sub_app {A C : List Code} (hA : ∀ (k : Nat) (d : Code), A[k]? = some d → ∀ (j : Nat) (c' : Code), (loopsL d)[j]? = some c' → A[k + j]? = some c') (hC : ∀ (k : Nat) (d : Code), C[k]? = some d → ∀ (j : Nat) (c' : Code), (loopsL d)[j]? = some c' → C[k + j]? = some c') :
    ∀ (k : Nat) (d : Code), (A ++ C)[k]? = some d → ∀ (j : Nat) (c' : Code), (loopsL d)[j]? = some c' → (A ++ C)[k + j]? = some c' := by
  intro k d hd j c' hc
  rcases Nat.lt_or_ge k A.length with h | h
  · rw [List.getElem?_append_left h] at hd
    have := hA k d hd j c' hc
    rw [List.getElem?_append_left (lt_of_get this)]; exact this
  · rw [List.getElem?_append_right h] at hd
    have := hC _ d hd j c' hc
    rw [List.getElem?_append_right (by omega), show k + j - A.length = k - A.length + j by omega]; exact this

theorem sub_cons {c : Code} {l : List Code} (hc : loopsL c = c :: l) (hl : ∀ (k : Nat) (d : Code), l[k]? = some d → ∀ (j : Nat) (c' : Code), (loopsL d)[j]? = some c' → l[k + j]? = some c') :
    ∀ (k : Nat) (d : Code), (c :: l)[k]? = some d → ∀ (j : Nat) (c' : Code), (loopsL d)[j]? = some c' → (c :: l)[k + j]? = some c' := by
  intro k d hd j c' hj
  cases k with
  | zero =>
    simp only [List.getElem?_cons_zero, Option.some.injEq] at hd
    subst hd
    rw [hc] at hj
    simpa using hj
  | succ k =>
    simp only [List.getElem?_cons_succ] at hd
    have := hl k d hd j c' hj
    rw [show k + 1 + j = (k + j) + 1 by omega, List.getElem?_cons_succ]; exact this

theorem loops_sub : ∀ (c : Code) (k : Nat) (d : Code), (loopsL c)[k]? = some d → ∀ (j : Nat) (c' : Code), (loopsL d)[j]? = some c' → (loopsL c)[k + j]? = some c' := by
  intro c
  induction c with
  | seq a b iha ihb => exact sub_cons rfl (sub_app iha ihb)
  | cond x a b iha ihb => exact sub_app iha ihb
  | block id c ih => exact ih
  | scope c ih => exact ih
  | loop c ih => exact sub_cons rfl ih
  | rangeFunc x ps a b iha ihb => exact sub_cons rfl (sub_app iha ihb)
  | _ => intro k d hd; simp [loopsL] at hd

theorem node_eq {fn : Func} {k : Nat} (h : ((loopsL (bodyOf fn))[k]?).isSome = true) : (loopsL (bodyOf fn))[k]? = some (nodeC fn k) := by
  unfold nodeC
  cases h' : (loopsL (bodyOf fn))[k]? with
  | none => rw [h'] at h; cases h
  | some c => rfl

/-- who ranges over the function -/
def conOK (E : Env) (P : Program) (f : FuncId) : Option (FuncId × Func × Nat) → Prop
  | none => noIter E.iter f = true
  | some (fc, fnc, kc) => P.funcs[fc]? = some fnc ∧ (iterAt E.iter f fc kc && (noIter E.iter fc && (fnc.body.isSome && ((loopsL (bodyOf fnc))[kc]?).isSome))) = true

theorem body_eq {fn : Func} (h : fn.body.isSome = true) : fn.body = some (bodyOf fn) := by
  unfold bodyOf
  cases hb : fn.body with
  | none => rw [hb] at h; cases h
  | some c => rfl

theorem conY_ok {E : Env} {P : Program} (hm : P.follows .mixedOrders = true) (h : EnvOK E P) {f : FuncId} {y : Option (FuncId × Func × Nat)} (hy : conOK E P f y) : (∀ B, baseOK P E.iter f B → CallOK E P (hdl E y) B) ∧ RangeOK E P (rgh E y) := by
  have hcall := evCall_ok hm h.tok h.specs h.loops h.bodies 9
  cases y with
  | none => exact ⟨fun B _ => hcall B, evRange_ok hm h.tok h.specs h.loops h.bodies hcall⟩
  | some y =>
    obtain ⟨fc, fnc, kc⟩ := y
    obtain ⟨hf, hc⟩ := hy
    simp only [Bool.and_eq_true] at hc
    obtain ⟨c1, c2, c3, c4⟩ := hc
    refine ⟨fun B hB => ⟨(hcall B).fn, ?_⟩, noRange_ok E P⟩
    have hfi : findIter E.iter f = some (fc, kc) := by
      unfold iterAt at c1
      split at c1
      · rename_i z hz
        simp only [Bool.and_eq_true] at c1
        rw [hz]
        obtain ⟨z1, z2⟩ := z
        have e1 : z1 = fc := Nat.eq_of_beq_eq_true c1.1
        have e2 : z2 = kc := Nat.eq_of_beq_eq_true c1.2
        rw [e1, e2]
      · cases c1
    obtain ⟨_, hI⟩ := hB
    rw [hfi] at hI
    have hnode := node_eq c4
    have hsub := loops_sub (bodyOf fnc) kc _ hnode
    intro args st r X a vargs hs ha hr
    simp only [hdl, withY, conY] at hr
    cases hn : nodeC fnc kc with
    | rangeFunc x ps c d =>
      rw [hn] at hr hnode hsub
      refine yield_ok hf (body_eq c3) hnode c2 (fun B X st act r hbo hs hr n => ?_) (fun B X st act r hbo hs hr n => ?_) hI args st r X a vargs hs ha hr
      · refine evCode_sound hm h.tok h.loops hf (body_eq c3) (fun B _ => hcall B) (callStill_ok h.specs) (callStill_mono' E) (evRange_ok hm h.tok h.specs h.loops h.bodies hcall) c (kc + 1) (fun j c' hj => ?_) hbo hs hr
        have := hsub (1 + j) c' (by simp only [loopsL]; rw [Nat.add_comm, List.getElem?_cons_succ, List.getElem?_append_left (lt_of_get hj)]; exact hj)
        rw [show kc + 1 + j = kc + (1 + j) by omega]; exact this
      · refine evCode_sound hm h.tok h.loops hf (body_eq c3) (fun B _ => hcall B) (callStill_ok h.specs) (callStill_mono' E) (evRange_ok hm h.tok h.specs h.loops h.bodies hcall) d (kc + 1 + nLoops c) (fun j c' hj => ?_) hbo hs hr
        have := hsub (1 + nLoops c + j) c' (by
          simp only [loopsL]
          rw [show 1 + nLoops c + j = (nLoops c + j) + 1 by omega, List.getElem?_cons_succ, List.getElem?_append_right (by rw [loopsL_length]; omega), loopsL_length]
          rw [show nLoops c + j - nLoops c = j by omega]; exact hj)
        rw [show kc + 1 + nLoops c + j = kc + (1 + nLoops c + j) by omega]; exact this
    | _ => rw [hn] at hr; cases hr

theorem loopGood_ofY {E : Env} {P : Program} (hm : P.follows .mixedOrders = true) (h : EnvOK E P) {f k : Nat} {fn : Func} (hf : P.funcs[f]? = some fn)
    (hlp : isLoop (nodeC fn k) = true) {tin : Tmpl} {outs : List Out} {S : List PV → TR} {y : Option (FuncId × Func × Nat)} (hy : conOK E P f y)
    (hk : (tin.ok E.nimp && outs.all fun o => o.tm.ok E.nimp) = true)
    (hnk : (fn.body.isSome && ((loopsL (bodyOf fn))[k]?).isSome) = true)
    (hS : ∀ ps, S ps = stepTY E y f fn k tin outs ps) : LoopGood P E.glob E.nimp (baseOK P E.iter f) (nodeC fn k) (pieceL tin outs (loopT S)) := by
  simp only [Bool.and_eq_true] at hk hnk
  have hnode := node_eq hnk.2
  have hsub : ∀ j c', (loopsL (loopBody (nodeC fn k)))[j]? = some c' → (loopsL (bodyOf fn))[k + 1 + j]? = some c' := by
    intro j c' hj
    have := loops_sub (bodyOf fn) k _ hnode (1 + j) c' (by
      cases hn : nodeC fn k <;> simp [hn, isLoop] at hlp
      rw [hn] at hj
      simp only [loopsL, loopBody] at hj ⊢
      rw [Nat.add_comm, List.getElem?_cons_succ]; exact hj)
    rw [show k + 1 + j = k + (1 + j) by omega]; exact this
  have hc : nodeC fn k = .loop (loopBody (nodeC fn k)) := by
    cases hn : nodeC fn k <;> simp [hn, isLoop] at hlp
    rfl
  rw [hc]
  refine loop_good (ev := evLoopBody E y f fn k) (S := S) ?_ hk.1 hk.2 (fun ps r _ hr => by rw [hS] at hr; exact hr) (fun ps => ⟨rounds, rfl⟩)
  intro n0 B X st a r hbo hs hr
  obtain ⟨w1, w2⟩ := conY_ok hm h hy
  exact evCode_sound hm h.tok h.loops hf (body_eq hnk.1) w1 (callStill_ok h.specs) (callStill_mono' E) w2 (loopBody (nodeC fn k)) (k + 1) hsub hbo hs hr

theorem loopGood_of {E : Env} {P : Program} (hm : P.follows .mixedOrders = true) (h : EnvOK E P) {f k : Nat} {fn : Func} (hf : P.funcs[f]? = some fn)
    (hlp : isLoop (nodeC fn k) = true) {tin : Tmpl} {outs : List Out} {S : List PV → TR} (hni : noIter E.iter f = true)
    (hk : (tin.ok E.nimp && outs.all fun o => o.tm.ok E.nimp) = true)
    (hnk : (fn.body.isSome && ((loopsL (bodyOf fn))[k]?).isSome) = true)
    (hS : ∀ ps, S ps = stepT E f fn k tin outs ps) : LoopGood P E.glob E.nimp (baseOK P E.iter f) (nodeC fn k) (pieceL tin outs (loopT S)) :=
  loopGood_ofY hm h hf hlp (y := none) hni hk hnk hS

theorem spec_of {E : Env} {P : Program} (hm : P.follows .mixedOrders = true) (h : EnvOK E P) {f : FuncId} {fn : Func} (hf : P.funcs[f]? = some fn)
    (hn : ((fn.name == "runtime.NumGoroutine") || fn.body.isNone) = false) {fz : Bool} {i : FIn} {outs : List FOut} {T : List PV → TR}
    (hk : (Nat.beq i.h.length E.nimp && i.h.all BP.isCells && outs.all fun o => cellsTo E.nimp o.h) = true)
    (hT : ∀ ps, T ps = funcT E f fn fz i outs ps) : Spec P E.glob f (specG i outs T) := by
  simp only [Bool.or_eq_false_iff] at hn
  simp only [Bool.and_eq_true] at hk
  exact spec_good hm h.tok h.specs h.loops h.bodies hf hn.1 hn.2 (n := 9) (fz := fz) ⟨Nat.eq_of_beq_eq_true hk.1.1, hk.1.2⟩ hk.2 (fun ps r _ hr => by rw [hT] at hr; exact hr)

end Go.Eng
