/- ENGINE J. Ranges over functions: the record of the loop, a round, the marks. -/
import Derived.Test.YtjebekbdjlooiaaEngG5
import Derived.RangeFuncRecord
namespace Go.Eng

theorem HSim.base {B B' : Base} {X : Ctx} (h : HSim B X) (h0 : B'.w0 = B.w0) (h1 : B'.imps = B.imps) (h2 : B'.M0 = B.M0) : HSim B' X := by
  obtain ⟨w0, imps, M0, fs, ro, y, pin⟩ := B
  obtain ⟨w0', imps', M0', fs', ro', y', pin'⟩ := B'
  simp only at h0 h1 h2
  subst h0 h1 h2
  exact ⟨h.blk, h.inj, h.notM, h.ltM, h.M0, h.newM, h.os, h.tape, h.output, h.size, h.frame, h.imps, h.impc, h.fresh, h.kept⟩

/-! ### Blocks that lie just so: one is written, one is laid -/
def notCells (o : Obj) : Prop := ∀ c T fr, o ≠ .cells c T fr
def keptSet (n : Nat) (o : Obj) (l : List (Nat × Obj)) : List (Nat × Obj) := l.map fun p => if p.1 = n then (n, o) else p

theorem keptSet_other {p : Nat × Obj} {n : Nat} {o : Obj} {l : List (Nat × Obj)} (h : p ∈ l) (hne : p.1 ≠ n) : p ∈ keptSet n o l :=
  List.mem_map.2 ⟨p, h, if_neg hne⟩
theorem keptSet_self {n : Nat} {o o' : Obj} {l : List (Nat × Obj)} (h : (n, o) ∈ l) : (n, o') ∈ keptSet n o' l :=
  List.mem_map.2 ⟨(n, o), h, if_pos rfl⟩
theorem keptSet_mem {p : Nat × Obj} {n : Nat} {o : Obj} {l : List (Nat × Obj)} (h : p ∈ keptSet n o l) : p = (n, o) ∨ (p ∈ l ∧ p.1 ≠ n) := by
  obtain ⟨q, h1, h2⟩ := List.mem_map.1 h
  by_cases hq : q.1 = n
  · rw [if_pos hq] at h2; exact .inl h2.symm
  · rw [if_neg hq] at h2; subst h2; exact .inr ⟨h1, hq⟩

/-- no block of cells turns -/
structure SameCells (w w' : World) : Prop where
  cells : ∀ (n : Nat) c T fr, w.heap[n]? = some (.cells c T fr) → w'.heap[n]? = some (.cells c T fr)
  cell : ∀ a : Addr, a.block < w.heap.size → w'.cell? a = w.cell? a

theorem SameCells.blk {X X' : Ctx} (hw : SameCells X.w X'.w) (hm : Move0 X X' some) {b : Nat} {k : Blk} (hσ : X'.σ b = X.σ b) (h : BlkRep X b k) : BlkRep X' b k := by
  cases k with
  | cells cs =>
    obtain ⟨n, c, T, e1, e2, e3⟩ := h
    exact ⟨n, c, T, by rw [hσ]; exact e1, hw.cells _ _ _ _ e2, e3.ext0 hm⟩
  | big cs k N l =>
    obtain ⟨n, c, T, vs, e1, e2, e3, e4, e5⟩ := h
    exact ⟨n, c, T, vs, by rw [hσ]; exact e1, hw.cells _ _ _ _ e2, e3.ext0 hm, e4, e5⟩
  | vec e sh l =>
    rcases h with ⟨e1, e2⟩ | ⟨n, c, e1, e2, e3⟩
    · exact .inl ⟨by rw [hσ]; exact e1, e2⟩
    · exact .inr ⟨n, c, by rw [hσ]; exact e1, hw.cells _ _ _ _ e2, e3.mono hm.M hm.w⟩
  | frz e sh l =>
    rcases h with ⟨e1, e2⟩ | ⟨n, c, e1, e2, e3, e4⟩
    · exact .inl ⟨by rw [hσ]; exact e1, e2⟩
    · exact .inr ⟨n, c, by rw [hσ]; exact e1, hw.cells _ _ _ _ e2, e3.mono hm.M hm.w, hm.M n e4⟩
  | dead => trivial

theorem same_good {B : Base} {X : Ctx} (hs : HSim B X) {w' : World} {kept' : List (Nat × Obj)} (hw : SameCells X.w w') (hsz : X.w.heap.size ≤ w'.heap.size) (ho : w'.os = X.w.os) (ht : w'.tape = X.w.tape) (hp : w'.output = X.w.output)
    (hf : ∀ n, n < B.w0.heap.size → w'.heap[n]? = X.w.heap[n]?) (hk : ∀ p, p ∈ kept' → w'.heap[p.1]? = some p.2 ∧ notCells p.2 ∧ B.w0.heap.size ≤ p.1) :
    HSim B { X with w := w', kept := kept' } ∧ Move0 X { X with w := w', kept := kept' } some := by
  have hm : Move0 X { X with w := w', kept := kept' } some :=
    ⟨fun _ h => h, fun a ha => hw.cell a (hs.ltM _ ha), fun b b' hb h => by
      cases h; exact ⟨hb, rfl, fun _ _ h => h, fun _ _ _ n _ c T fr h => ⟨c, T, fr, hw.cells n c T fr h, rfl⟩⟩, rfl⟩
  refine ⟨⟨fun b k hb => SameCells.blk hw hm rfl (hs.blk b k hb), hs.inj, hs.notM, fun n hn => Nat.lt_of_lt_of_le (hs.ltM n hn) hsz, hs.M0, hs.newM, ho.trans hs.os, ht.trans hs.tape, hp.trans hs.output,
    Nat.le_trans hs.size hsz, fun n hn hi => (hf n hn).trans (hs.frame n hn hi), hs.imps, hs.impc, hs.fresh, hk⟩, hm⟩

theorem sameCells_put {w : World} {n : Nat} {o o' : Obj} (h : w.heap[n]? = some o) (ho : notCells o) (ho' : notCells o') : SameCells w (w.putObj n o') := by
  have hn := (Array.getElem?_eq_some_iff.1 h).1
  refine ⟨fun m c T fr hm => ?_, fun a _ => ?_⟩
  · by_cases e : m = n
    · subst e; rw [h] at hm; exact absurd (Option.some.inj hm) (ho _ _ _)
    · rw [World.putObj_heap_other e]; exact hm
  · by_cases e : a.block = n
    · unfold World.cell?
      rw [e, h, World.putObj_heap_same hn]
      cases o' <;> cases o <;> first | rfl | exact absurd rfl (ho _ _ _) | exact absurd rfl (ho' _ _ _)
    · exact World.cell?_of_block (World.putObj_heap_other e)

theorem putKept_good {B : Base} {X : Ctx} (hs : HSim B X) {n : Nat} {o o' : Obj} (hk : (n, o) ∈ X.kept) (ho' : notCells o') :
    HSim B { X with w := X.w.putObj n o', kept := keptSet n o' X.kept } ∧ Move0 X { X with w := X.w.putObj n o', kept := keptSet n o' X.kept } some := by
  obtain ⟨h1, h2, h3⟩ := hs.kept _ hk
  simp only at h1 h2 h3
  have hn := (Array.getElem?_eq_some_iff.1 h1).1
  refine same_good hs (sameCells_put h1 h2 ho') (by simp) rfl rfl rfl (fun m hm => World.putObj_heap_other (by omega)) fun p hp => ?_
  rcases keptSet_mem hp with rfl | ⟨hp, hne⟩
  · exact ⟨World.putObj_heap_same hn, ho', h3⟩
  · obtain ⟨g1, g2, g3⟩ := hs.kept p hp
    exact ⟨by rw [World.putObj_heap_other hne]; exact g1, g2, g3⟩

theorem growKept_good {B : Base} {X : Ctx} (hs : HSim B X) {o : Obj} (ho : notCells o) :
    HSim B { X with w := X.w.alloc o, kept := (X.w.heap.size, o) :: X.kept } ∧ Move0 X { X with w := X.w.alloc o, kept := (X.w.heap.size, o) :: X.kept } some := by
  refine same_good hs ⟨fun m c T fr hm => ?_, fun a ha => World.cell?_of_block (heap_alloc_lt _ _ ha)⟩ (by simp) rfl rfl rfl (fun m hm => heap_alloc_lt _ _ (Nat.lt_of_lt_of_le hm hs.size)) fun p hp => ?_
  · rw [heap_alloc_lt _ _ (Array.getElem?_eq_some_iff.1 hm).1]; exact hm
  · rcases List.mem_cons.1 hp with rfl | hp
    · exact ⟨heap_alloc_at _ _, ho, hs.size⟩
    · obtain ⟨g1, g2, g3⟩ := hs.kept p hp
      exact ⟨by rw [heap_alloc_lt _ _ (Array.getElem?_eq_some_iff.1 g1).1]; exact g1, g2, g3⟩

theorem kept_lt {B : Base} {X : Ctx} (hs : HSim B X) {p : Nat × Obj} (h : p ∈ X.kept) : p.1 < X.w.heap.size := (Array.getElem?_eq_some_iff.1 (hs.kept p h).1).1

/-! ### Another yield -/
mutual
theorem Rep.setY' {X : Ctx} (l : Nat) : ∀ {av : AV} {v : Value}, Rep X av v → av.noY = true → Rep { X with y := l } av v
  | _, _, .undef v, _ => .undef v
  | _, _, .skip, _ => .skip
  | _, _, .yld, h => by cases h
  | _, _, .blit b, _ => .blit b
  | _, _, .bool b, _ => .bool b
  | _, _, .ilit k n, _ => .ilit k n
  | _, _, .int k n, _ => .int k n
  | _, _, .str s, _ => .str s
  | _, _, .nilp, _ => .nilp
  | _, _, .ptr b off n hb hσ, _ => .ptr b off n hb hσ
  | _, _, .eptr sh l i off a hsp h0 h1 hr, _ => .eptr sh l i off a hsp h0 h1 hr
  | _, _, .mnil sh l i off, _ => .mnil sh l i off
  | _, _, .mptr sh l i off a hsp h0 h1 hr, _ => .mptr sh l i off a hsp h0 h1 hr
  | _, _, .vptr b i off n k hb hσ h, _ => .vptr b i off n k hb hσ h
  | _, _, .vsub b i n k m c hb hσ h, _ => .vsub b i n k m c hb hσ h
  | _, _, .aptr b o i n hb hσ h0, _ => .aptr b o i n hb hσ h0
  | _, _, .asub b o N i m n k c hb hσ h0 h1 h2 h3, _ => .asub b o N i m n k c hb hσ h0 h1 h2 h3
  | _, _, .nils, _ => .nils
  | _, _, .imm sh l v h, _ => .imm sh l v h
  | _, _, .vec b p nn cc hb h, _ => .vec b p nn cc hb h
  | _, _, .nilf, _ => .nilf
  | _, _, .fn g first caps vf vc h1 h2, h => by
    simp only [AV.noY, Bool.and_eq_true] at h
    exact .fn g _ _ vf vc (RepL.setY' l h1 h.1) (RepL.setY' l h2 h.2)
  | _, _, .agg cs vs h1, h => .agg _ vs (RepL.setY' l h1 (by simpa only [AV.noY] using h))
  | _, _, .tuple cs vs h1, h => .tuple _ vs (RepL.setY' l h1 (by simpa only [AV.noY] using h))
  | _, _, .bagg cs k n r vs h1 hl, h => .bagg _ k n r vs (RepL.setY' l h1 (by simpa only [AV.noY] using h)) hl
theorem RepL.setY' {X : Ctx} (l : Nat) : ∀ {av : List AV} {v : List Value}, RepL X av v → AV.noYL av = true → RepL { X with y := l } av v
  | _, _, .nil, _ => .nil
  | _, _, .cons h1 t, h => by
    simp only [AV.noYL, Bool.and_eq_true] at h
    exact .cons (Rep.setY' l h1 h.1) (RepL.setY' l t h.2)
end
theorem Rep.setY {X : Ctx} (l : Nat) {av : AV} {v : Value} (h : av.noY = true) (hr : Rep X av v) : Rep { X with y := l } av v := hr.setY' l h
theorem RepL.setY {X : Ctx} (l : Nat) {av : List AV} {v : List Value} (h : AV.noYL av = true) (hr : RepL X av v) : RepL { X with y := l } av v := hr.setY' l h

theorem HSim.setY {B : Base} {X : Ctx} (h : HSim B X) (l : Nat) (hy : X.h.all Blk.noY = true) : HSim B { X with y := l } := by
  refine ⟨fun b k hb => ?_, h.inj, h.notM, h.ltM, h.M0, h.newM, h.os, h.tape, h.output, h.size, h.frame, h.imps, h.impc, h.fresh, h.kept⟩
  have h1 := h.blk b k hb
  cases k with
  | cells cs =>
    obtain ⟨n, c, T, e1, e2, e3⟩ := h1
    have : (Blk.cells cs).noY = true := List.all_eq_true.1 hy _ (List.mem_of_getElem? hb)
    exact ⟨n, c, T, e1, e2, e3.setY l this⟩
  | big cs k N r =>
    obtain ⟨n, c, T, vs, e1, e2, e3, e4, e5⟩ := h1
    have : (Blk.big cs k N r).noY = true := List.all_eq_true.1 hy _ (List.mem_of_getElem? hb)
    exact ⟨n, c, T, vs, e1, e2, e3.setY l this, e4, e5⟩
  | vec e sh l => exact h1
  | frz e sh l => exact h1
  | dead => trivial

theorem glob_setY {gl : List (Nat × AV)} {X : Ctx} (h : GlobOk gl X) (l : Nat) : GlobOk gl { X with y := l } := by
  intro x hx
  obtain ⟨⟨sh, r, i, off, he⟩, hr⟩ := h x hx
  refine ⟨⟨sh, r, i, off, he⟩, Rep.setY l (by rw [he]; rfl) hr⟩

theorem glob_ext0 {gl : List (Nat × AV)} {X X' : Ctx} (hm : Move0 X X' some) (h : GlobOk gl X) : GlobOk gl X' := fun x hx => ⟨(h x hx).1, (h x hx).2.ext0 hm⟩

/-- the same at other blocks that lie just so, with another base -/
theorem Sim.moveB {E : Env} {B B' : Base} {X X' : Ctx} {st : St} {a : Act} (hs : Sim E B X st a) (h1 : HSim B' X') (h2 : Move0 X X' some) (h3 : X'.h = X.h) (hfs : B'.fs = B.fs) (hy : B'.y = B.y) (hi : B'.imps = B.imps)
    {ds : List Deferred} (h4 : Marks X'.kept (B'.pin st.pend) ds) (h5 : ∀ p, p ∈ B'.pin st.pend → p ∈ X'.kept) : Sim E B' X' st { a with defers := ds } :=
  ⟨h1, h3.trans hs.h, hs.t.ext0 h2, hfs ▸ hs.fs.ext0 h2, glob_ext0 h2 hs.glob, h4, hi ▸ hs.ni, (h2.y.trans hs.y).trans hy.symm, h5⟩

/-! ### The record -/
def Ex.out : Ex → Exit
  | .normal => .normal
  | .exit i => .exit i
  | .ret => .ret
def Post (E : Env) (B : Base) (r : Ex × St) : Exit → Act → World → Prop := fun e a w => e = r.1.out ∧ ∃ X', X'.w = w ∧ Sim E B X' r.2 a

def Ex.code : Ex → Code
  | .normal => .skip
  | .exit i => .exit i
  | .ret => .ret
def recOf (fid : FuncId) (ct : Array Value) (ps : Array Tmp) (a b : Code) (D : Nat) (e : Option Ex) : Loop :=
  { state := if e.isNone then .ready else .done, pending := e.map Ex.code, fn := fid, tmps := ct, params := ps, assign := a, body := b, defers := D }

def loopsL : Code → List Code
  | .seq a b => .seq a b :: (loopsL a ++ loopsL b)
  | .cond _ a b => loopsL a ++ loopsL b
  | .block _ c => loopsL c
  | .scope c => loopsL c
  | .loop c => .loop c :: loopsL c
  | .rangeFunc x ps a b => .rangeFunc x ps a b :: (loopsL a ++ loopsL b)
  | _ => []

/-- the iterator of the statement (f, k), which is under way -/
def isIterB (P : Program) (yc : FuncId × Nat) (B : Base) : Prop :=
  ∃ (fn : Func) (c : Code) (x : Operand) (ps : Array Tmp) (a b : Code), P.funcs[yc.1]? = some fn ∧ fn.body = some c ∧ (loopsL c)[yc.2]? = some (.rangeFunc x ps a b) ∧
    ∃ (ct : Array Value) (rest : List (List Value)) (D fid : Nat) (more : List (Nat × Obj)), B.fs = ct.toList :: rest ∧ (∀ e, B.pin e = (B.y, .loop (recOf fid ct ps a b D e)) :: more) ∧ (∀ p, p ∈ more → p.1 ≠ B.y) ∧ B.ro = none

def baseOK (P : Program) (it : List (FuncId × FuncId × Nat)) (f : FuncId) (B : Base) : Prop :=
  (B.ro.isSome = true → 2 ≤ B.fs.length) ∧ match findIter it f with
    | none => True
    | some yc => isIterB P yc B

/-- a state that is no activation's -/
structure SimF (E : Env) (B : Base) (X : Ctx) (st : St) : Prop where
  hs : HSim B X
  h : X.h = st.h
  fs : RepLL X (st.t :: st.fs) B.fs
  glob : GlobOk E.glob X
  ni : B.imps.length ≤ E.nimp
  y : X.y = B.y
  pin : ∀ p, p ∈ B.pin st.pend → p ∈ X.kept

def YOK (E : Env) (P : Program) (y : CallY) (B : Base) : Prop :=
  ∀ (args : List AV) (st : St) (r : AV × St) (X : Ctx) (a : Act) (vargs : List Value), Sim E B X st a → RepL X args vargs → (y args st).run = some r →
    ∃ (l : Nat) (f : FuncId) (tmps : Array Value) (assign body : Code), (Instr.yield X.y vargs.toArray).run P X.w = .ok (.round l f tmps assign body) X.w ∧
    ∀ n, RoundIn (wideR B.ro) n P l f tmps assign body X.w fun e w' => ∃ v X', e = .returned v ∧ X'.w = w' ∧ Rep X' r.1 v ∧ Sim E B X' r.2 a

/-- what a handler of functions that are ranged over must show -/
def RangeOK (E : Env) (P : Program) (rangeH : RangeH) : Prop :=
  ∀ (g : FuncId) (y : CallY) (args : List AV) (st : St) (r : AV × St) (B : Base) (X : Ctx) (vargs : List Value), SimF E B X st → baseOK P E.iter g B → (∀ B', baseOK P E.iter g B' → YOK E P y B') → B.ro = none →
    RepL X args vargs → (rangeH g y args st).run = some r →
    (∀ w, (callFunc g vargs.toArray).run P w = .ok (.enter g vargs.toArray) w) ∧
    Calls P g vargs.toArray X.w fun e w' => ∃ v X', e = .returned v ∧ X'.w = w' ∧ Rep X' r.1 v ∧ SimF E B X' r.2

theorem setAll_rep {X : Ctx} : ∀ (ps : List Tmp) {ct : List AV} {tmps : Array Value} {args : List AV} {vargs : List Value}, RepL X ct tmps.toList → RepL X args vargs →
    RepL X (setAll ct ps args) ((ps.zip vargs).foldl (fun (tmps : Array Value) (p : Tmp × Value) => tmps.setIfInBounds p.1 p.2) tmps).toList
  | [], _, _, args, _, h, _ => by cases args <;> simpa [setAll] using h
  | p :: ps, ct, tmps, _, _, h, .nil => by simpa [setAll] using h
  | p :: ps, ct, tmps, _, _, h, .cons h1 h2 => by
    simp only [setAll, List.zip_cons_cons, List.foldl_cons]
    exact setAll_rep ps (by rw [Array.toList_setIfInBounds]; exact RepL.set h1 h p) h2

/-- A ROUND -/
theorem yield_ok {E : Env} {P : Program} {f : FuncId} {k : Nat} {fn : Func} {cb : Code} (hf : P.funcs[f]? = some fn) (hb : fn.body = some cb) {x : Operand} {ps : Array Tmp} {a b : Code} (hk : (loopsL cb)[k]? = some (.rangeFunc x ps a b))
    {evA evB : St → Tree (Ex × St)} (hni : noIter E.iter f = true)
    (hA : ∀ (B : Base) (X : Ctx) (st : St) (act : Act) (r : Ex × St), baseOK P E.iter f B → Sim E B X st act → (evA st).run = some r → ∀ n, a.wpIn (wideR B.ro) n P (Post E B r) act X.w)
    (hB : ∀ (B : Base) (X : Ctx) (st : St) (act : Act) (r : Ex × St), baseOK P E.iter f B → Sim E B X st act → (evB st).run = some r → ∀ n, b.wpIn (wideR B.ro) n P (Post E B r) act X.w)
    {B : Base} (hI : isIterB P (f, k) B) : YOK E P (yieldT evA evB ps.toList) B := by
  intro args st r X act vargs hs hargs hr
  obtain ⟨fn', c', x', ps', a', b', q1, q2, q3, ct, rest, D, fid, more, q4, q5, q6, q7⟩ := hI
  simp only at q1 q3
  rw [hf] at q1; cases q1
  rw [hb] at q2; cases q2
  rw [hk] at q3; cases q3
  unfold yieldT at hr
  cases hp : st.pend with
  | some e => rw [hp] at hr; cases hr
  | none =>
  rw [hp] at hr
  cases hfs : st.fs with
  | nil => rw [hfs] at hr; cases hr
  | cons ctA fsA =>
  rw [hfs] at hr
  simp only at hr
  cases hlen : Nat.beq args.length ps.toList.length with
  | false => rw [hlen] at hr; cases hr
  | true =>
  rw [hlen] at hr
  simp only at hr
  have hlen' := Nat.eq_of_beq_eq_true hlen
  obtain ⟨rA, h1, h2⟩ := bind_some hr
  obtain ⟨xA, sA⟩ := rA
  cases xA with
  | exit i => cases h2
  | ret => cases h2
  | normal =>
  simp only at h2
  obtain ⟨rB, h3, h4⟩ := bind_some h2
  -- the record
  have hpin := hs.pin
  have hdf := hs.df
  rw [hp, q5] at hpin hdf
  have hrec : (B.y, .loop (recOf fid ct ps a b D none)) ∈ X.kept := hpin _ List.mem_cons_self
  have hheap := (hs.hs.kept _ hrec).1
  simp only at hheap
  have hfsR := hs.fs
  rw [hfs, q4] at hfsR
  have hct : RepL X ctA ct.toList := by cases hfsR with | cons g1 g2 => exact g1
  refine ⟨B.y, fid, ((ps.zip vargs.toArray).foldl (fun (tmps : Array Value) (p : Tmp × Value) => tmps.setIfInBounds p.1 p.2) ct), a, b, ?_, fun n => ?_⟩
  · rw [hs.y]
    exact run_yield (r := recOf fid ct ps a b D none) hheap (by simp only [recOf, List.size_toArray]; rw [← hargs.length, hlen', Array.length_toList])
  rw [q7]
  apply roundIn_of_wpIn (F := wideR none) trivial
  let BR : Base := { B with ro := some B.y, fs := act.tmps.toList :: B.fs, pin := fun _ => X.kept }
  have hbR : ∀ pin, baseOK P E.iter f { BR with pin := pin } := by
    intro pin
    refine ⟨fun _ => ?_, ?_⟩
    · show 2 ≤ (act.tmps.toList :: B.fs).length
      rw [q4]; simp
    · unfold noIter at hni
      split at hni
      · cases hni
      · rename_i hn; rw [hn]; trivial
  have hsR : Sim E BR X { t := setAll ctA ps.toList args, fs := st.t :: ctA :: fsA, h := st.h, pend := none } { tmps := ((ps.zip vargs.toArray).foldl (fun (tmps : Array Value) (p : Tmp × Value) => tmps.setIfInBounds p.1 p.2) ct), defers := [] } := by
    refine ⟨hs.hs.base rfl rfl rfl, hs.h, ?_, ?_, hs.glob, Marks.nil, hs.ni, hs.y, fun p hp => hp⟩
    · have := setAll_rep ps.toList hct hargs
      rw [← Array.foldl_toList, Array.toList_zip]
      exact this
    · show RepLL X _ (act.tmps.toList :: B.fs)
      rw [← hfs]
      exact .cons hs.t hs.fs
  refine wpIn_mono (hA BR X _ _ _ (hbR _) hsR h1 n) fun e a1 w1 ⟨he, X1, hw1, hs1⟩ => ?_
  subst he hw1
  -- the round begins
  have hrec1 : (B.y, .loop (recOf fid ct ps a b D none)) ∈ X1.kept := hs1.pin _ hrec
  obtain ⟨g1, g2⟩ := putKept_good hs1.hs (o' := .loop { recOf fid ct ps a b D none with state := .busy }) hrec1 (fun _ _ _ h => by cases h)
  refine ⟨_, run_beginRound (r := recOf fid ct ps a b D none) (hs1.hs.kept _ hrec1).1 rfl, ?_⟩
  let pinB : List (Nat × Obj) := keptSet B.y (.loop { recOf fid ct ps a b D none with state := .busy }) X.kept
  obtain ⟨Ds1, d1, d2, d3⟩ := hs1.df
  have hsB : Sim E { BR with pin := fun _ => pinB } { X1 with w := X1.w.putObj B.y (.loop { recOf fid ct ps a b D none with state := .busy }), kept := keptSet B.y (.loop { recOf fid ct ps a b D none with state := .busy }) X1.kept } sA a1 := by
    refine hs1.moveB (B' := { BR with pin := fun _ => pinB }) (ds := a1.defers) (g1.base rfl rfl rfl) g2 rfl rfl rfl rfl ⟨Ds1, d1, d2, fun D' hD' => ⟨keptSet_other (d3 D' hD').1 (fun e => (d3 D' hD').2 _ hrec e.symm), fun p hp => ?_⟩⟩ fun p hp => ?_
    · rcases keptSet_mem hp with hp | ⟨hp, _⟩
      · rw [hp]; exact fun e => (d3 D' hD').2 _ hrec e
      · exact (d3 D' hD').2 _ hp
    · rcases keptSet_mem hp with rfl | ⟨hp, hne⟩
      · exact keptSet_self hrec1
      · exact keptSet_other (hs1.pin _ hp) hne
  refine wpIn_mono (hB _ _ _ _ _ (hbR _) hsB h3 n) fun e2 a2 w2 ⟨he2, X2, hw2, hs2⟩ => ?_
  subst he2 hw2
  obtain ⟨xB, sB⟩ := rB
  have hrec2 : (B.y, .loop { recOf fid ct ps a b D none with state := .busy }) ∈ X2.kept := hs2.pin _ (keptSet_self hrec)
  have hlie2 := (hs2.hs.kept _ hrec2).1
  simp only at hlie2
  simp only at h4
  cases hfs2 : sB.fs with
  | nil => rw [hfs2] at h4; cases h4
  | cons itA fs' =>
  rw [hfs2] at h4
  simp only at h4
  -- the round ends
  have fin : ∀ (e : Option Ex) (_ : r = (.blit e.isNone, { t := itA, fs := fs', h := sB.h, pend := e })) (_ : e = none ∨ ∃ x, e = some x),
      ∃ v w', (Instr.endRound B.y (e.map Ex.code)).run P X2.w = .ok v w' ∧ ∃ v' X', Ending.returned v = .returned v' ∧ X'.w = w' ∧ Rep X' r.1 v' ∧ Sim E B X' r.2 act := by
    intro e hre _
    have hend := run_endRound (P := P) (r := { recOf fid ct ps a b D none with state := .busy }) (e.map Ex.code) hlie2
    have hobj : ({ ({ recOf fid ct ps a b D none with state := .busy } : Loop) with state := if (e.map Ex.code).isNone then .ready else .done, pending := e.map Ex.code } : Loop) = recOf fid ct ps a b D e := by
      cases e <;> rfl
    rw [hobj] at hend
    obtain ⟨k1, k2⟩ := putKept_good hs2.hs (o' := .loop (recOf fid ct ps a b D e)) hrec2 (fun _ _ _ h => by cases h)
    refine ⟨_, _, hend, _, { X2 with w := X2.w.putObj B.y (.loop (recOf fid ct ps a b D e)), kept := keptSet B.y (.loop (recOf fid ct ps a b D e)) X2.kept }, rfl, rfl, ?_, ?_⟩
    · rw [hre]
      have : (e.map Ex.code).isNone = e.isNone := by cases e <;> rfl
      rw [this]; exact .blit _
    · have hfs3 := hs2.fs
      rw [hfs2] at hfs3
      have hfs4 := hfs3.ext0 k2
      have hold : ∀ p, p ∈ X.kept → p.1 ≠ B.y → p ∈ keptSet B.y (.loop (recOf fid ct ps a b D e)) X2.kept := fun p hp hne =>
        keptSet_other (hs2.pin p (keptSet_other hp hne)) hne
      rw [hre]
      refine ⟨k1.base rfl rfl rfl, hs2.h, ?_, ?_, glob_ext0 k2 hs2.glob, ?_, hs.ni, hs2.y, ?_⟩
      · cases hfs4 with | cons z1 z2 => exact z1
      · cases hfs4 with | cons z1 z2 => exact z2
      · obtain ⟨Ds, m1, m2, m3⟩ := hdf
        refine ⟨Ds, m1, m2, fun D' hD' => ⟨hold _ (m3 D' hD').1 (fun e' => (m3 D' hD').2 _ List.mem_cons_self e'.symm), fun p hp => ?_⟩⟩
        rw [q5] at hp
        rcases List.mem_cons.1 hp with rfl | hp
        · exact (m3 D' hD').2 (B.y, .loop (recOf fid ct ps a b D none)) List.mem_cons_self
        · exact (m3 D' hD').2 p (List.mem_cons_of_mem _ hp)
      · intro p hp
        rw [q5] at hp
        rcases List.mem_cons.1 hp with rfl | hp
        · exact keptSet_self hrec2
        · exact hold p (hpin p (List.mem_cons_of_mem _ hp)) (q6 p hp)
  cases xB with
  | normal =>
    simp only [Tree.run, Option.some.injEq] at h4
    exact fin none h4.symm (.inl rfl)
  | ret =>
    simp only [Tree.run, Option.some.injEq] at h4
    exact fin (some .ret) h4.symm (.inr ⟨_, rfl⟩)
  | exit i =>
    simp only [Tree.run, Option.some.injEq] at h4
    exact fin (some (.exit i)) h4.symm (.inr ⟨_, rfl⟩)

/-! ### The marks at a function's end -/
theorem leaves_ok {E : Env} {P : Program} {B : Base} {fn : Func} {st : St} {R : Ending → World → Prop} {n : Nat} : ∀ (Ds : List Nat) {X : Ctx} {a : Act}, Sim E B X st a → a.defers = Ds.map markOf →
    (∀ X', Sim E B X' st { a with defers := [] } → ∃ v, (results fn a.tmps).run P X'.w = .ok v X'.w ∧ R (.returned v) X'.w) → LeavesInM (wideR none) n P fn a.tmps R (Ds.map markOf) .returning X.w
  | [], X, a, hs, hd, h => by
    have : ({ a with defers := [] } : Act) = a := by obtain ⟨t, d⟩ := a; simp only [List.map_nil] at hd; rw [hd]
    rw [this] at h
    exact h X hs
  | D :: Ds, X, a, hs, hd, h => by
    obtain ⟨Ds', d1, d2, d3⟩ := hs.df
    have hDs : Ds' = D :: Ds := by
      rw [hd] at d1
      have inj : ∀ (l m : List Nat), l.map markOf = m.map markOf → m = l := by
        intro l
        induction l with
        | nil => intro m hm; cases m with
          | nil => rfl
          | cons _ _ => cases hm
        | cons x l ih => intro m hm; cases m with
          | nil => cases hm
          | cons y m =>
            simp only [List.map_cons, List.cons.injEq, markOf, Deferred.mk.injEq, Target.collected.injEq, and_true] at hm
            rw [ih m hm.2, hm.1]
      exact inj _ _ d1
    subst hDs
    obtain ⟨m1, m2⟩ := d3 D List.mem_cons_self
    have hlie := (hs.hs.kept _ m1).1
    simp only at hlie
    obtain ⟨g1, g2⟩ := putKept_good hs.hs (o' := .deferred none) m1 (fun _ _ _ h => by cases h)
    have hnd := List.nodup_cons.1 d2
    have hs' := hs.moveB (B' := B) (ds := Ds.map markOf) g1 g2 rfl rfl rfl rfl ⟨Ds, rfl, hnd.2, fun D' hD' => ⟨keptSet_other (d3 D' (List.mem_cons_of_mem _ hD')).1 (fun e => hnd.1 (e ▸ hD')), (d3 D' (List.mem_cons_of_mem _ hD')).2⟩⟩
      (fun p hp => keptSet_other (hs.pin p hp) (m2 p hp))
    refine ⟨by simp, .inl ⟨D, _, rfl, run_takeDeferred hlie, ?_⟩⟩
    exact leaves_ok Ds (a := { a with defers := Ds.map markOf }) hs' rfl h

end Go.Eng
