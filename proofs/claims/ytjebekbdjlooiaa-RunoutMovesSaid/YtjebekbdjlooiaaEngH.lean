/- ENGINE H. Code, bodies, calls. -/
import Derived.Test.YtjebekbdjlooiaaEngJ
namespace Go.Eng

theorem Sim.env {E E' : Env} (he : E.glob = E'.glob) (hn : E.nimp = E'.nimp) {B : Base} {X : Ctx} {st : St} {a : Act} (hs : Sim E B X st a) : Sim E' B X st a :=
  ⟨hs.hs, hs.h, hs.t, hs.fs, he ▸ hs.glob, hs.df, hn ▸ hs.ni, hs.y, hs.pin⟩

theorem loopsL_length : ∀ c : Code, (loopsL c).length = nLoops c := by
  intro c
  induction c <;> simp_all [loopsL, nLoops]
  all_goals omega

theorem findNode_mem {f k : Nat} {L : St → Tree (Ex × St)} : ∀ {l : List ((Nat × Nat) × (St → Tree (Ex × St)))}, findNode l f k = some L → ((f, k), L) ∈ l
  | [], h => by cases h
  | x :: l, h => by
    simp only [findNode] at h
    split at h
    · rename_i hb
      cases h
      simp only [Bool.and_eq_true] at hb
      have h1 := Nat.eq_of_beq_eq_true hb.1
      have h2 := Nat.eq_of_beq_eq_true hb.2
      have : x = ((f, k), x.2) := by obtain ⟨⟨a, b⟩, c⟩ := x; simp only at h1 h2; rw [h1, h2]
      exact this ▸ List.mem_cons_self
    · exact List.mem_cons_of_mem _ (findNode_mem h)

/-- what is shown of a piece of code (a loop, a sequence): from any state in which L has a result, it comes to that -/
def LoopGood (P : Program) (gl : List (Nat × AV)) (ni : Nat) (BO : Base → Prop) (c : Code) (L : St → Tree (Ex × St)) : Prop :=
  ∀ (E : Env) (B : Base) (X : Ctx) (st : St) (a : Act) (r : Ex × St), E.glob = gl → E.nimp = ni → BO B → Sim E B X st a → (L st).run = some r → ∀ (n0 : Nat), c.wpIn (wideR B.ro) n0 P (Post E B r) a X.w

def Env.loopsOK (E : Env) (P : Program) : Prop :=
  ∀ x, x ∈ E.loops → ∃ fn c c', P.funcs[x.1.1]? = some fn ∧ fn.body = some c ∧ (loopsL c)[x.1.2]? = some c' ∧ LoopGood P E.glob E.nimp (baseOK P E.iter x.1.1) c' x.2

theorem range_ok {E : Env} {P : Program} {rangeH : RangeH} (hrg : RangeOK E P rangeH) {f : FuncId} {fn : Func} (hf : P.funcs[f]? = some fn) {cb : Code} (hb : fn.body = some cb) {k : Nat} {x : Operand} {ps : Array Tmp} {a b : Code}
    (hk : (loopsL cb)[k]? = some (.rangeFunc x ps a b)) {evA evB : St → Tree (Ex × St)}
    (hA : ∀ (B : Base) (X : Ctx) (st : St) (act : Act) (r : Ex × St), baseOK P E.iter f B → Sim E B X st act → (evA st).run = some r → ∀ n, a.wpIn (wideR B.ro) n P (Post E B r) act X.w)
    (hB : ∀ (B : Base) (X : Ctx) (st : St) (act : Act) (r : Ex × St), baseOK P E.iter f B → Sim E B X st act → (evB st).run = some r → ∀ n, b.wpIn (wideR B.ro) n P (Post E B r) act X.w)
    {B : Base} {X : Ctx} {st : St} {act : Act} {r : Ex × St} {n0 : Nat} (hbo : baseOK P E.iter f B) (hs : Sim E B X st act) {g : FuncId} {first caps : List AV} (hx : E.opd st.t x = .fn g first caps)
    (hc : (iterAt E.iter g f k && noIter E.iter f && topSt st) = true) (h : ((rangeH g (yieldT evA evB ps.toList) (first ++ [.yld] ++ caps) st).bind afterT).run = some r) :
    (Code.rangeFunc x ps a b).wpIn (wideR B.ro) n0 P (Post E B r) act X.w := by
  simp only [Bool.and_eq_true] at hc
  obtain ⟨⟨hit, hni⟩, htop⟩ := hc
  -- the activation of the function itself
  have htop' : st.fs = [[]] ∧ st.pend = none ∧ AV.noYL st.t = true ∧ st.h.all Blk.noY = true := by
    unfold topSt at htop
    split at htop
    · rename_i h1 h2
      simp only [Bool.and_eq_true] at htop
      exact ⟨h1, h2, htop.1, htop.2⟩
    · cases htop
  obtain ⟨t1, t2, t3, t4⟩ := htop'
  have hBfs : B.fs = [[]] := by
    have := hs.fs
    rw [t1] at this
    generalize B.fs = l at this
    cases this with
    | cons g1 g2 => cases g1; cases g2; rfl
  have hro : B.ro = none := by
    cases hr : B.ro with
    | none => rfl
    | some l =>
      have := hbo.1 (by rw [hr]; rfl)
      rw [hBfs] at this
      simp at this
  have hfi : findIter E.iter g = some (f, k) := by
    unfold iterAt at hit
    split at hit
    · rename_i y hy
      simp only [Bool.and_eq_true] at hit
      rw [hy]
      obtain ⟨y1, y2⟩ := y
      have e1 : y1 = f := Nat.eq_of_beq_eq_true hit.1
      have e2 : y2 = k := Nat.eq_of_beq_eq_true hit.2
      rw [e1, e2]
    · cases hit
  obtain ⟨q, h1, h2⟩ := bind_some h
  have hvx := rep_opd hs x
  rw [hx] at hvx
  generalize hev : act.eval x = vx at hvx
  cases hvx with
  | fn _ _ _ vf vc g1 g2 =>
  rw [hro]
  apply wpIn_rangeFunc
  intro fid _
  -- the blocks that are laid
  let D := X.w.heap.size
  let l := X.w.heap.size + 1
  let rec0 : Obj := .loop (recOf fid act.tmps ps a b D none)
  obtain ⟨k1, k2⟩ := growKept_good hs.hs (o := .deferred (some [])) (fun _ _ _ h => by cases h)
  obtain ⟨k3, k4⟩ := growKept_good k1 (o := rec0) (fun _ _ _ h => Obj.noConfusion h)
  let X1 : Ctx := { X with w := (X.w.alloc (.deferred (some []))).alloc rec0, kept := (l, rec0) :: (D, .deferred (some [])) :: X.kept }
  have hsz : (X.w.alloc (.deferred (some []))).heap.size = l := by simp [l]
  have hX1 : ({ ({ X with w := X.w.alloc (.deferred (some [])), kept := (X.w.heap.size, .deferred (some [])) :: X.kept } : Ctx) with w := (X.w.alloc (.deferred (some []))).alloc rec0, kept := ((X.w.alloc (.deferred (some []))).heap.size, rec0) :: (X.w.heap.size, .deferred (some [])) :: X.kept } : Ctx) = X1 := by
    rw [hsz]
  have k3' : HSim B X1 := hX1 ▸ k3
  have k4' : Move0 { X with w := X.w.alloc (.deferred (some [])), kept := (X.w.heap.size, .deferred (some [])) :: X.kept } X1 some := hX1 ▸ k4
  have hall : X1.h.all Blk.noY = true := by show X.h.all Blk.noY = true; rw [hs.h]; exact t4
  let X2 : Ctx := { X1 with y := l }
  have hs2 : HSim B X2 := k3'.setY l hall
  let B1 : Base := { B with fs := act.tmps.toList :: B.fs, ro := none, y := l, pin := fun e => (l, .loop (recOf fid act.tmps ps a b D e)) :: (D, .deferred (some [])) :: X.kept }
  have hlt : ∀ p, p ∈ (D, (.deferred (some []) : Obj)) :: X.kept → p.1 ≠ l := by
    intro p hp
    rcases List.mem_cons.1 hp with rfl | hp
    · show D ≠ l; simp [D, l]
    · have := kept_lt hs.hs hp; simp only [l]; omega
  have hI : isIterB P (f, k) B1 := ⟨fn, cb, x, ps, a, b, hf, hb, hk, act.tmps, B.fs, D, fid, (D, .deferred (some [])) :: X.kept, rfl, fun e => rfl, hlt, rfl⟩
  have hB1 : baseOK P E.iter g B1 := ⟨fun h => (by cases h), by rw [hfi]; exact hI⟩
  have hargs : RepL X2 (first ++ [.yld] ++ caps) (vf ++ [Value.func (.yield l) #[] #[]] ++ vc) := by
    have hno : AV.noYL first = true ∧ AV.noYL caps = true := by
      have hn : (AV.fn g first caps).noY = true := by
        rw [← hx]
        cases x with
        | tmp i =>
          simp only [Env.opd]
          rw [List.getD_eq_getElem?_getD]
          cases hi : st.t[i]? with
          | none => rfl
          | some v =>
            have : ∀ (l : List AV), AV.noYL l = true → ∀ v, v ∈ l → v.noY = true := by
              intro l
              induction l with
              | nil => intro _ v hv; cases hv
              | cons y l ih =>
                intro hl v hv
                simp only [AV.noYL, Bool.and_eq_true] at hl
                rcases List.mem_cons.1 hv with rfl | hv
                · exact hl.1
                · exact ih hl.2 v hv
            exact this _ t3 v (List.mem_of_getElem? hi)
        | const v => rw [show E.opd st.t (.const v) = ofV v from rfl] at hx; unfold ofV at hx; split at hx; · cases hx
                     · unfold ofCell at hx; split at hx <;> first | cases hx | (split at hx <;> cases hx)
        | global g' =>
          simp only [Env.opd] at hx
          cases hg : E.glob.find? fun x => x.1 == g' with
          | none => rw [hg] at hx; cases hx
          | some y =>
            rw [hg] at hx
            obtain ⟨⟨sh, r', i, off, he⟩, _⟩ := hs.glob y (List.mem_of_find?_eq_some hg)
            simp only [Option.map_some, Option.getD_some] at hx
            rw [he] at hx; cases hx
        | func f' => rw [show E.opd st.t (.func f') = .fn f' [] [] from rfl] at hx; cases hx; rfl
      simpa only [AV.noY, Bool.and_eq_true] using hn
    have m1 : RepL X1 first vf := (g1.ext0 k2).ext0 k4'
    have m2 : RepL X1 caps vc := (g2.ext0 k2).ext0 k4'
    exact ((m1.setY l hno.1).append (.cons .yld .nil)).append (m2.setY l hno.2)
  have hF : SimF E B1 X2 st := by
    have m1 : RepL X1 st.t act.tmps.toList := (hs.t.ext0 k2).ext0 k4'
    refine ⟨hs2.base rfl rfl rfl, hs.h, ?_, glob_setY (glob_ext0 k4' (glob_ext0 k2 hs.glob)) l, hs.ni, rfl, fun p hp => by rw [t2] at hp; exact hp⟩
    show RepLL X2 _ (act.tmps.toList :: B.fs)
    rw [t1, hBfs]
    exact .cons (m1.setY l t3) (.cons .nil .nil)
  obtain ⟨henter, hcalls⟩ := hrg g _ _ st q B1 X2 _ hF hB1 (fun B' hB' => by
    obtain ⟨_, h'⟩ := hB'
    rw [hfi] at h'
    exact yield_ok hf hb hk hni hA hB h') rfl hargs h1
  refine ⟨l, [markOf D], X1.w, { target := .fn (.func g) vc.toArray, args := vf.toArray ++ #[Value.func (.yield l) #[] #[]] }, X1.w, g, (vf ++ [Value.func (.yield l) #[] #[]] ++ vc).toArray, X1.w, ?_, ?_, fun _ _ => trivial, ?_, wideR_depth none, ?_⟩
  · exact run_enterLoop_outer fid act.tmps ps a b
  · simp only [resolve, rangeCall, hev, Deferred.ofValue, Sem.run_pure]
    simp [Act.eval]
  · simp only [invoke]
    have : vf.toArray ++ #[Value.func (.yield l) #[] #[]] ++ vc.toArray = (vf ++ [Value.func (.yield l) #[] #[]] ++ vc).toArray := by
      apply Array.ext'; simp
    rw [this]
    exact henter X1.w
  · refine callsR.2 (hcalls.mono fun e w' ⟨v, X', e1, e2, _, hF'⟩ => ?_)
    subst e1 e2
    -- behind the iterator
    have hpin := hF'.pin
    have hrec : (l, .loop (recOf fid act.tmps ps a b D q.2.pend)) ∈ X'.kept := hpin _ List.mem_cons_self
    have hlie := (hF'.hs.kept _ hrec).1
    simp only at hlie
    have hbusy : (recOf fid act.tmps ps a b D q.2.pend).state ≠ .busy := by
      simp only [recOf]; split <;> simp
    obtain ⟨m1, m2⟩ := putKept_good hF'.hs (o' := .loop { recOf fid act.tmps ps a b D q.2.pend with state := .exhausted }) hrec (fun _ _ _ h => by cases h)
    refine ⟨_, _, run_endLoop hlie hbusy, ?_⟩
    unfold afterT at h2
    cases htq : topSt { q.2 with pend := none } with
    | false => rw [htq] at h2; cases h2
    | true =>
    rw [htq] at h2
    simp only at h2
    have htop2 : q.2.fs = [[]] ∧ AV.noYL q.2.t = true ∧ q.2.h.all Blk.noY = true := by
      unfold topSt at htq
      split at htq
      · rename_i h1 h2
        simp only [Bool.and_eq_true] at htq
        exact ⟨h1, htq.1, htq.2⟩
      · cases htq
    obtain ⟨u1, u2, u3⟩ := htop2
    let X3 : Ctx := { X' with w := X'.w.putObj l (.loop { recOf fid act.tmps ps a b D q.2.pend with state := .exhausted }), kept := keptSet l (.loop { recOf fid act.tmps ps a b D q.2.pend with state := .exhausted }) X'.kept }
    have hsim : Sim E B { X3 with y := B.y } { q.2 with pend := none } { act with defers := [markOf D] ++ act.defers } := by
      have hfs' := hF'.fs.ext0 m2
      have hold : ∀ p, p ∈ (D, (.deferred (some []) : Obj)) :: X.kept → p ∈ X3.kept := fun p hp => keptSet_other (hpin p (List.mem_cons_of_mem _ hp)) (hlt p hp)
      have hfs2 : RepLL X3 (q.2.t :: q.2.fs) (act.tmps.toList :: B.fs) := hfs'
      refine ⟨((m1.base (B' := B) rfl rfl rfl).setY B.y (by show X'.h.all Blk.noY = true; rw [hF'.h]; exact u3)), hF'.h, ?_, ?_, glob_setY (glob_ext0 m2 hF'.glob) B.y, ?_, hs.ni, rfl, ?_⟩
      · cases hfs2 with | cons z1 z2 => exact z1.setY B.y u2
      · show RepLL _ q.2.fs B.fs
        rw [u1, hBfs]; exact .cons .nil .nil
      · obtain ⟨Ds, d1, d2, d3⟩ := hs.df
        rw [t2] at d3
        refine ⟨D :: Ds, by rw [d1]; rfl, List.nodup_cons.2 ⟨fun hD => ?_, d2⟩, fun D' hD' => ?_⟩
        · have := kept_lt hs.hs (d3 D hD).1
          simp [D] at this
        · rcases List.mem_cons.1 hD' with rfl | hD'
          · refine ⟨hold _ List.mem_cons_self, fun p hp => ?_⟩
            have hp' := hs.pin p (by rw [t2]; exact hp)
            have := kept_lt hs.hs hp'
            simp only [D]; omega
          · exact ⟨hold _ (List.mem_cons_of_mem _ (d3 D' hD').1), (d3 D' hD').2⟩
      · intro p hp
        exact hold p (List.mem_cons_of_mem _ (hs.pin p (by rw [t2]; exact hp)))
    cases hpe : q.2.pend with
    | none =>
      rw [hpe] at h2
      simp only [Tree.run, Option.some.injEq] at h2
      subst h2
      exact ⟨rfl, { X3 with y := B.y }, by show X'.w.putObj l _ = _; rw [hpe], hsim⟩
    | some e =>
      rw [hpe] at h2
      cases e with
      | normal => cases h2
      | ret =>
        simp only [Tree.run, Option.some.injEq] at h2
        subst h2
        exact wpIn_ret ⟨rfl, { X3 with y := B.y }, by show X'.w.putObj l _ = _; rw [hpe], hsim⟩
      | exit i =>
        simp only [Tree.run, Option.some.injEq] at h2
        subst h2
        exact wpIn_exit ⟨rfl, { X3 with y := B.y }, by show X'.w.putObj l _ = _; rw [hpe], hsim⟩

theorem evCode_sound {E : Env} {P : Program} (hm : P.follows .mixedOrders = true) (hE : E.tok P) (hL : E.loopsOK P) {f : FuncId} {fn : Func} (hf : P.funcs[f]? = some fn) {cb : Code} (hb : fn.body = some cb)
    {callH : CallH} (hcH : ∀ B, baseOK P E.iter f B → CallOK E P callH B) {callS : List Blk → CallS} (hc : StillOK E P callS) (hmo : StillMono callS) {rangeH : RangeH} (hrg : RangeOK E P rangeH) :
    ∀ (c : Code) (k : Nat), (∀ j c', (loopsL c)[j]? = some c' → (loopsL cb)[k + j]? = some c') →
    ∀ {B : Base} {X : Ctx} {st : St} {a : Act} {r : Ex × St} {n0 : Nat}, baseOK P E.iter f B → Sim E B X st a → (evCode E callH callS rangeH f c k st).run = some r → c.wpIn (wideR B.ro) n0 P (Post E B r) a X.w := by
  intro c
  induction c with
  | skip =>
    intro k _ B X st a r n0 hbo hs h
    simp only [evCode, Tree.run, Option.some.injEq] at h
    subst h
    exact wpIn_skip ⟨rfl, X, rfl, hs⟩
  | label _ =>
    intro k _ B X st a r n0 hbo hs h
    simp only [evCode, Tree.run, Option.some.injEq] at h
    subst h
    exact wpIn_label ⟨rfl, X, rfl, hs⟩
  | region id ops draw =>
    intro k _ B X st a r n0 hbo hs h
    simp only [evCode] at h
    obtain ⟨s, h1, h2⟩ := bind_some h
    simp only [Tree.run, Option.some.injEq] at h2
    subst h2
    cases draw with
    | true => exact evDraw_sound hm hE (hcH B hbo) hc hmo hs h1 fun X' a' hs' => ⟨rfl, X', rfl, hs'⟩
    | false => exact evRegion_sound hE (hcH B hbo) hs h1 fun X' a' hs' => ⟨rfl, X', rfl, hs'⟩
  | seq c d ihc ihd =>
    intro k hl B X st a r n0 hbo hs h
    simp only [evCode] at h
    cases hfn : findNode E.loops f k with
    | some L =>
      rw [hfn] at h
      obtain ⟨fn', c1, c2, q1, q2, q3, q4⟩ := hL _ (findNode_mem hfn)
      simp only at q1 q3 q4
      rw [hf] at q1; cases q1
      rw [hb] at q2; cases q2
      have := hl 0 (.seq c d) (by simp [loopsL])
      rw [Nat.add_zero, q3] at this
      cases this
      exact q4 E B X st a r rfl rfl hbo hs h n0
    | none =>
    rw [hfn] at h
    obtain ⟨r1, h1, h2⟩ := bind_some h
    apply wpIn_seq
    have g1 := ihc (k + 1) (fun j c' hj => by
      have := hl (1 + j) c' (by simp only [loopsL]; rw [Nat.add_comm, List.getElem?_cons_succ, List.getElem?_append_left (lt_of_get hj)]; exact hj)
      rw [show k + 1 + j = k + (1 + j) by omega]; exact this) (n0 := n0) hbo hs h1
    refine wpIn_mono g1 fun e a' w' ⟨he, X', hw, hs'⟩ => ?_
    subst hw
    obtain ⟨x1, s1⟩ := r1
    cases x1 with
    | normal =>
      subst he
      refine ihd (k + 1 + nLoops c) (fun j c' hj => ?_) hbo hs' h2
      have := hl (1 + nLoops c + j) c' (by
        simp only [loopsL]
        rw [show 1 + nLoops c + j = (nLoops c + j) + 1 by omega, List.getElem?_cons_succ, List.getElem?_append_right (by rw [loopsL_length]; omega), loopsL_length]
        rw [show nLoops c + j - nLoops c = j by omega]; exact hj)
      rw [show k + 1 + nLoops c + j = k + (1 + nLoops c + j) by omega]; exact this
    | exit i =>
      simp only [Tree.run, Option.some.injEq] at h2
      subst he h2
      exact ⟨rfl, X', rfl, hs'⟩
    | ret =>
      simp only [Tree.run, Option.some.injEq] at h2
      subst he h2
      exact ⟨rfl, X', rfl, hs'⟩
  | cond x c d ihc ihd =>
    intro k hl B X st a r n0 hbo hs h
    simp only [evCode] at h
    have hlc := fun j c' (hj : (loopsL c)[j]? = some c') => hl j c' (by simp only [loopsL]; rw [List.getElem?_append_left (lt_of_get hj)]; exact hj)
    have hld : ∀ j c', (loopsL d)[j]? = some c' → (loopsL cb)[k + nLoops c + j]? = some c' := fun j c' hj => by
      have := hl (nLoops c + j) c' (by
        simp only [loopsL]
        rw [List.getElem?_append_right (by rw [loopsL_length]; omega), loopsL_length]
        rw [show nLoops c + j - nLoops c = j by omega]; exact hj)
      rw [show k + nLoops c + j = k + (nLoops c + j) by omega]; exact this
    have hx := rep_opd hs x
    cases hv : E.opd st.t x with
    | blit b =>
      rw [hv] at h hx
      generalize hev : a.eval x = vx at hx
      cases hx
      cases b with
      | true => exact wpIn_cond_true hev (ihc k hlc hbo hs h)
      | false => exact wpIn_cond_false hev (ihd _ hld hbo hs h)
    | bool b =>
      rw [hv] at h hx
      generalize hev : a.eval x = vx at hx
      cases hx
      cases x with
      | tmp t =>
        simp only at h
        have ht : st.t[t]? = some (.bool b) := by
          simp only [Env.opd, List.getD_eq_getElem?_getD] at hv
          cases hg : st.t[t]? with
          | none => rw [hg] at hv; cases hv
          | some y => rw [hg] at hv; simp at hv; rw [hv]
        have hs' := hs.lit ht
        cases b with
        | true => exact wpIn_cond_true hev (ihc k hlc hbo hs' h)
        | false => exact wpIn_cond_false hev (ihd _ hld hbo hs' h)
      | _ => cases h
    | _ => rw [hv] at h; cases h
  | block id c ihc =>
    intro k hl B X st a r n0 hbo hs h
    simp only [evCode] at h
    obtain ⟨r1, h1, h2⟩ := bind_some h
    apply wpIn_block
    have g1 := @ihc k hl _ _ _ _ _ n0 hbo hs h1
    refine wpIn_mono g1 fun e a' w' ⟨he, X', hw, hs'⟩ => ?_
    subst hw he
    obtain ⟨x1, s1⟩ := r1
    cases x1 with
    | normal =>
      simp only [Tree.run, Option.some.injEq] at h2
      subst h2
      exact ⟨rfl, X', rfl, hs'⟩
    | ret =>
      simp only [Tree.run, Option.some.injEq] at h2
      subst h2
      exact ⟨rfl, X', rfl, hs'⟩
    | exit i =>
      simp only [Ex.out, Exit.inBlock]
      simp only at h2
      by_cases hi : i = id
      · rw [if_pos hi] at h2 ⊢
        simp only [Tree.run, Option.some.injEq] at h2
        subst h2
        exact ⟨rfl, X', rfl, hs'⟩
      · rw [if_neg hi] at h2 ⊢
        simp only [Tree.run, Option.some.injEq] at h2
        subst h2
        exact ⟨rfl, X', rfl, hs'⟩
  | loop c ihc =>
    intro k hl B X st a r n0 hbo hs h
    simp only [evCode] at h
    cases hfn : findNode E.loops f k with
    | none => rw [hfn] at h; cases h
    | some L =>
      rw [hfn] at h
      obtain ⟨fn', c1, c2, q1, q2, q3, q4⟩ := hL _ (findNode_mem hfn)
      simp only at q1 q3 q4
      rw [hf] at q1; cases q1
      rw [hb] at q2; cases q2
      have := hl 0 (.loop c) (by simp [loopsL])
      rw [Nat.add_zero, q3] at this
      cases this
      exact q4 E B X st a r rfl rfl hbo hs h n0
  | exit id =>
    intro k _ B X st a r n0 hbo hs h
    simp only [evCode, Tree.run, Option.some.injEq] at h
    subst h
    exact wpIn_exit ⟨rfl, X, rfl, hs⟩
  | ret  =>
    intro k _ B X st a r n0 hbo hs h
    simp only [evCode, Tree.run, Option.some.injEq] at h
    subst h
    exact wpIn_ret ⟨rfl, X, rfl, hs⟩
  | goto _ =>
    intro k _ B X st a r n0 hbo hs h
    simp only [evCode] at h; cases h
  | scope _ ihc =>
    intro k _ B X st a r n0 hbo hs h
    simp only [evCode] at h; cases h
  | rangeFunc x ps c d ihc ihd =>
    intro k hl B X st a r n0 hbo hs h
    simp only [evCode] at h
    cases hx : E.opd st.t x with
    | fn g first caps =>
      rw [hx] at h
      simp only at h
      cases hcd : iterAt E.iter g f k && noIter E.iter f && topSt st with
      | false => rw [hcd] at h; cases h
      | true =>
        rw [hcd] at h
        simp only at h
        refine range_ok hrg hf hb (hl 0 _ (by simp [loopsL])) (fun B X st act r hbo hs hr n => ?_) (fun B X st act r hbo hs hr n => ?_) hbo hs hx hcd h
        · refine ihc (k + 1) (fun j c' hj => ?_) hbo hs hr
          have := hl (1 + j) c' (by simp only [loopsL]; rw [Nat.add_comm, List.getElem?_cons_succ, List.getElem?_append_left (lt_of_get hj)]; exact hj)
          rw [show k + 1 + j = k + (1 + j) by omega]; exact this
        · refine ihd (k + 1 + nLoops c) (fun j c' hj => ?_) hbo hs hr
          have := hl (1 + nLoops c + j) c' (by
            simp only [loopsL]
            rw [show 1 + nLoops c + j = (nLoops c + j) + 1 by omega, List.getElem?_cons_succ, List.getElem?_append_right (by rw [loopsL_length]; omega), loopsL_length]
            rw [show nLoops c + j - nLoops c = j by omega]; exact hj)
          rw [show k + 1 + nLoops c + j = k + (1 + nLoops c + j) by omega]; exact this
    | _ => rw [hx] at h; cases h

  | _ =>
    intro k hl B X st a r n0 hbo hs h
    simp only [evCode] at h; cases h

/-! ### The end of a body -/
theorem loadAt_addr {P : Program} {w : World} {t : TypeId} {v u : Value} (h : (Instr.loadAt t v).run P w = .ok u w) : ∃ ad, v = .pointer (some ad) ∧ (loadVar t ad).run P w = .ok u w := by
  cases v with
  | pointer p =>
    cases p with
    | some ad => exact ⟨ad, rfl, by simpa [Instr.loadAt, Instr.sureAddr] using h⟩
    | none => simp [Instr.loadAt, Instr.sureAddr] at h
  | _ => simp [Instr.loadAt, Instr.sureAddr] at h

def resF (tmps : Array Value) : ResultVar → Sem Value
  | .tmp t => pure (tmps.getD t undef)
  | .cell a t => do loadVar t (← asAddr (tmps.getD a undef))

theorem results_eq (fn : Func) (tmps : Array Value) : results fn tmps = (fn.results.mapM (resF tmps) >>= fun vs => pure (if h : vs.size = 1 then vs[0] else .tuple vs)) := by
  unfold results
  congr 1

theorem resOf_sound {E : Env} {P : Program} (hE : E.tok P) {B : Base} {X : Ctx} {st : St} {a : Act} (hs : Sim E B X st a) : ∀ (l : List ResultVar) (vs : List AV), resOf E st.h st.t l = some vs →
    ∃ us, (l.mapM (resF a.tmps)).run P X.w = .ok us X.w ∧ RepL X vs us
  | [], vs, h => by simp only [resOf, Option.some.injEq] at h; subst h; exact ⟨[], by simp, .nil⟩
  | .tmp i :: l, vs, h => by
    simp only [resOf] at h
    split at h
    · rename_i r hr
      cases h
      obtain ⟨us, h1, h2⟩ := resOf_sound hE hs l r hr
      have := rep_opd hs (.tmp i)
      simp only [Env.opd, Act.eval] at this
      exact ⟨_ :: us, by simp [List.mapM_cons, resF, h1], .cons this h2⟩
    · cases h
  | .cell i ty :: l, vs, h => by
    simp only [resOf] at h
    split at h
    · rename_i v h' n r hld hr
      cases h
      obtain ⟨us, h1, h2⟩ := resOf_sound hE hs l r hr
      have hv := rep_opd hs (.tmp i)
      simp only [Env.opd, Act.eval] at hv
      rw [← hs.h] at hld
      obtain ⟨av, u, g1, g2, g3⟩ := evLoad_sound hE hs.hs hv (r := (v, h', n)) (by rw [hld]; rfl)
      obtain ⟨ad, g4, g5⟩ := loadAt_addr g2
      have : v = av := congrArg Prod.fst g1
      subst this
      refine ⟨u :: us, ?_, .cons g3 h2⟩
      simp only [List.mapM_cons, resF, Sem.run_bind, g4, asAddr, Sem.run_pure, Result.andThen_ok, g5, h1]
    · cases h

theorem RepL.len {X : Ctx} : ∀ {as : List AV} {vs : List Value}, RepL X as vs → as.length = vs.length
  | _, _, .nil => rfl
  | _, _, .cons _ t => by simp [t.len]

theorem results_sound {E : Env} {P : Program} (hE : E.tok P) {B : Base} {X : Ctx} {st : St} {a : Act} (hs : Sim E B X st a) {fn : Func} {vs : List AV} (h : resOf E st.h st.t fn.results.toList = some vs) :
    ∃ u, (results fn a.tmps).run P X.w = .ok u X.w ∧ Rep X (oneOf vs) u := by
  obtain ⟨us, h1, h2⟩ := resOf_sound hE hs _ _ h
  have hm : (fn.results.mapM (resF a.tmps)).run P X.w = .ok us.toArray X.w := by
    rw [Array.mapM_eq_mapM_toList, Sem.run_map, h1]; rfl
  rw [results_eq, Sem.run_bind, hm]
  simp only [Result.andThen_ok, Sem.run_pure]
  have hl := h2.len
  cases h2 with
  | nil => exact ⟨_, rfl, .tuple [] [] .nil⟩
  | cons g1 g2 =>
    cases g2 with
    | nil => exact ⟨_, rfl, by simpa [oneOf] using g1⟩
    | cons g3 g4 =>
      refine ⟨_, rfl, ?_⟩
      rw [dif_neg (by simp)]
      exact .tuple _ _ (.cons g1 (.cons g3 g4))

theorem initT_rep {X : Ctx} {fn : Func} {args : List AV} {vargs : List Value} (h : RepL X args vargs) : RepL X (initT fn args) (vargs.toArray ++ Array.replicate (fn.ntmps - vargs.toArray.size) undef).toList := by
  have hrep : ∀ n, RepL X (List.replicate n .skip) (List.replicate n undef) := by
    intro n
    induction n with
    | zero => exact .nil
    | succ n ih => simp only [List.replicate_succ]; exact .cons .skip ih
  unfold initT
  simp only [Array.toList_append, Array.toList_replicate, List.size_toArray]
  rw [h.len]
  exact h.append (hrep _)

/-! ### Calls -/
def Env.bodies (E : Env) (P : Program) : Prop := ∀ x, x ∈ E.body → P.funcs[x.1]? = some x.2 ∧ (x.2.name == "runtime.NumGoroutine") = false

theorem evBody_sound {E : Env} {P : Program} (hm : P.follows .mixedOrders = true) (hE : E.tok P) (hS : E.specs P) (hL : E.loopsOK P) {f : FuncId} {fn : Func} (hf : P.funcs[f]? = some fn)
    {callH : CallH} (hcH : ∀ B, baseOK P E.iter f B → CallOK E P callH B) {rangeH : RangeH} (hrg : RangeOK E P rangeH)
    {args : List AV} {st : St} {r : AV × St} {B : Base} {X : Ctx} {vargs : List Value} (hro : B.ro = none) (hbo : baseOK P E.iter f B) (hs : SimF E B X st) (ha : RepL X args vargs) (h : (evBody E callH rangeH f fn args st).run = some r) :
    fn.body.isNone = false ∧ Calls P f vargs.toArray X.w fun e w' => ∃ v X', e = .returned v ∧ X'.w = w' ∧ Rep X' r.1 v ∧ SimF E B X' r.2 := by
  unfold evBody at h
  cases hb : fn.body with
  | none => rw [hb] at h; cases h
  | some c =>
    rw [hb] at h
    refine ⟨rfl, callsR.1 (callsIn_of_wp_marks (F := wideR none) (n := 0) hf hb trivial ?_)⟩
    obtain ⟨r1, h1, h2⟩ := bind_some h
    have hsim : Sim E B X { t := initT fn args, fs := st.t :: st.fs, h := st.h, pend := st.pend } { tmps := vargs.toArray ++ Array.replicate (fn.ntmps - vargs.toArray.size) undef, defers := [] } :=
      ⟨hs.hs, hs.h, initT_rep ha, hs.fs, hs.glob, Marks.nil, hs.ni, hs.y, hs.pin⟩
    have hcode := evCode_sound (n0 := 0) hm hE hL hf hb hcH (callStill_ok hS) (callStill_mono' E) hrg c 0 (fun j c' hj => by rw [Nat.zero_add]; exact hj) hbo hsim h1
    rw [hro] at hcode
    refine wpIn_mono hcode fun e a' w' ⟨he, X', hw, hs'⟩ => ?_
    subst he hw
    obtain ⟨x1, s1⟩ := r1
    have fin : ∀ {vs : List AV} {caller : List AV} {fs : List (List AV)}, resOf E s1.h s1.t fn.results.toList = some vs → s1.fs = caller :: fs → r = (oneOf vs, { t := caller, fs := fs, h := s1.h, pend := s1.pend }) →
        LeavesInM (wideR none) 0 P fn a'.tmps (fun e w' => ∃ v X', e = .returned v ∧ X'.w = w' ∧ Rep X' r.1 v ∧ SimF E B X' r.2) a'.defers .returning X'.w := by
      intro vs caller fs hr hfs hre
      obtain ⟨Ds, d1, _⟩ := hs'.df
      rw [d1]
      refine leaves_ok Ds hs' d1 fun X2 hs2 => ?_
      obtain ⟨u, g1, g2⟩ := results_sound hE hs2 hr
      refine ⟨u, g1, u, X2, rfl, rfl, by rw [hre]; exact g2, ?_⟩
      rw [hre]
      exact ⟨hs2.hs, hs2.h, by rw [← hfs]; exact hs2.fs, hs2.glob, hs2.ni, hs2.y, hs2.pin⟩
    unfold evEnd at h2
    cases x1 with
    | exit i => simp only at h2; cases h2
    | normal =>
      simp only at h2
      split at h2
      · rename_i vs caller fs hr hfs; cases h2; exact fin hr hfs rfl
      · cases h2
    | ret =>
      simp only at h2
      split at h2
      · rename_i vs caller fs hr hfs; cases h2; exact fin hr hfs rfl
      · cases h2

theorem enters_of {P : Program} {f : FuncId} {fn : Func} (hf : P.funcs[f]? = some fn) (hn : (fn.name == "runtime.NumGoroutine") = false) (hb : fn.body.isNone = false) : Enters P f := by
  intro args w
  unfold callFunc
  rw [Sem.run_bind]
  show (Result.ok P w).andThen _ = _
  simp only [Result.andThen_ok, hf, hn, hb, Bool.false_eq_true, if_false, Sem.run_pure]

theorem noRange_ok (E : Env) (P : Program) : RangeOK E P noRange := fun _ _ _ _ _ _ _ _ _ _ _ _ _ h => by cases h

theorem evRange_ok {E : Env} {P : Program} (hm : P.follows .mixedOrders = true) (hE : E.tok P) (hS : E.specs P) (hL : E.loopsOK P) (hb : E.bodies P) {callH : CallH} (hcH : ∀ B, CallOK E P callH B) : RangeOK E P (evRange E callH) := by
  intro g y args st r B X vargs hs hbo hy hro ha h
  unfold evRange at h
  cases hbd : E.body.find? fun x => x.1 == g with
  | none => rw [hbd] at h; cases h
  | some fn =>
    rw [hbd] at h
    have hx := hb fn (List.mem_of_find?_eq_some hbd)
    have hfe : fn.1 = g := by simpa using List.find?_some hbd
    rw [hfe] at hx
    obtain ⟨g1, g2⟩ := evBody_sound hm hE hS hL hx.1 (callH := withY y callH) (fun B' hB' => ⟨(hcH B').fn, hy B' hB'⟩) (noRange_ok E P) hro hbo hs ha h
    exact ⟨enters_of hx.1 hx.2 g1 _, g2⟩

theorem noIter_base {P : Program} {it : List (FuncId × FuncId × Nat)} {f : FuncId} (h : noIter it f = true) {B : Base} (hB : B.ro.isSome = true → 2 ≤ B.fs.length) : baseOK P it f B := by
  refine ⟨hB, ?_⟩
  unfold noIter at h
  split at h
  · cases h
  · rename_i hn; rw [hn]; trivial

theorem evCall_ok {E : Env} {P : Program} (hm : P.follows .mixedOrders = true) (hE : E.tok P) (hS : E.specs P) (hL : E.loopsOK P) (hb : E.bodies P) : ∀ n B, CallOK E P (evCall E n) B
  | 0, _ => ⟨(fun f args st r X a vargs _ _ h => by simp only [evCall] at h; cases h), (fun args st r X a vargs _ _ h => by simp only [evCall] at h; cases h)⟩
  | n + 1, B => ⟨(fun f args st r X a vargs hs ha h => by
    simp only [evCall] at h
    cases hsp : E.spec.find? fun x => x.1 == f with
    | some G =>
      rw [hsp] at h
      have hG := hS G (List.mem_of_find?_eq_some hsp)
      have hfe : G.1 = f := by simpa using List.find?_some hsp
      rw [hfe] at hG
      exact ⟨hG.1 _, callSpec_sound hG hs ha h⟩
    | none =>
      rw [hsp] at h
      cases hbd : E.body.find? fun x => x.1 == f with
      | none => rw [hbd] at h; cases h
      | some fn =>
        rw [hbd] at h
        simp only at h
        cases hni : noIter E.iter f with
        | false => rw [hni] at h; cases h
        | true =>
        rw [hni] at h
        simp only at h
        obtain ⟨r1, h1, h2⟩ := bind_some h
        simp only [Tree.run, Option.some.injEq] at h2
        subst h2
        have hx := hb fn (List.mem_of_find?_eq_some hbd)
        have hfe : fn.1 = f := by simpa using List.find?_some hbd
        rw [hfe] at hx
        let B' : Base := { B with fs := a.tmps.toList :: B.fs, ro := none, pin := fun _ => X.kept }
        have hF : SimF E B' X st := ⟨hs.hs.base rfl rfl rfl, hs.h, .cons hs.t hs.fs, hs.glob, hs.ni, hs.y, fun p hp => hp⟩
        obtain ⟨g1, g2⟩ := evBody_sound hm hE hS hL hx.1 (fun B _ => evCall_ok hm hE hS hL hb n B) (evRange_ok hm hE hS hL hb (evCall_ok hm hE hS hL hb n)) (B := B') rfl (noIter_base hni (fun h => by cases h)) hF ha h1
        refine ⟨enters_of hx.1 hx.2 g1 _, g2.mono fun e w' ⟨v, X', e1, e2, e3, e4⟩ => ⟨v, X', e1, e2, e3, ?_⟩⟩
        have hpin : ∀ p, p ∈ X.kept → p ∈ X'.kept := e4.pin
        have hfs : RepLL X' (r1.2.t :: r1.2.fs) (a.tmps.toList :: B.fs) := e4.fs
        obtain ⟨Ds, d1, d2, d3⟩ := hs.df
        refine ⟨e4.hs.base rfl rfl rfl, e4.h, ?_, ?_, e4.glob, ⟨Ds, d1, d2, fun D hD => ⟨hpin _ (d3 D hD).1, (d3 D hD).2⟩⟩, hs.ni, e4.y, fun p hp => hpin p (hs.pin p hp)⟩
        · cases hfs with | cons k1 k2 => exact k1
        · cases hfs with | cons k1 k2 => exact k2),
    (fun args st r X a vargs _ _ h => by simp only [evCall] at h; cases h)⟩

/-- what a function's own text says of a call of it -/
theorem evFunc_sound {E : Env} {P : Program} (hm : P.follows .mixedOrders = true) (hE : E.tok P) (hS : E.specs P) (hL : E.loopsOK P) (hb : E.bodies P) {f : FuncId} {fn : Func} (hf : P.funcs[f]? = some fn)
    {n : Nat} {B : Base} {X : Ctx} {args : List AV} {vargs : List Value} {r : AV × List Blk} (hs : HSim B X) (h0 : B.imps.length ≤ E.nimp) (hgl : GlobOk E.glob X) (ha : RepL X args vargs)
    (h : (evFunc E n f fn args X.h).run = some r) :
    Calls P f vargs.toArray X.w fun e w' => ∃ v X', e = .returned v ∧ X'.w = w' ∧ Rep X' r.1 v ∧ X'.h = r.2 ∧ HSim B X' ∧ X'.y = X.y := by
  unfold evFunc at h
  cases hni : noIter E.iter f with
  | false => rw [hni] at h; cases h
  | true =>
  rw [hni] at h
  simp only at h
  obtain ⟨r1, h1, h2⟩ := bind_some h
  simp only [Tree.run, Option.some.injEq] at h2
  subst h2
  let B0 : Base := { B with fs := [[]], ro := none, y := X.y, pin := fun _ => [] }
  have hF : SimF E B0 X { t := [], fs := [], h := X.h, pend := none } := ⟨hs.base rfl rfl rfl, rfl, .cons .nil .nil, hgl, h0, rfl, fun p hp => by cases hp⟩
  obtain ⟨_, g2⟩ := evBody_sound hm hE hS hL hf (fun B _ => evCall_ok hm hE hS hL hb n B) (evRange_ok hm hE hS hL hb (evCall_ok hm hE hS hL hb n)) (B := B0) rfl (noIter_base hni (fun h => by cases h)) hF ha h1
  refine g2.mono fun e w' ⟨v, X', e1, e2, e3, e4⟩ => ⟨v, X', e1, e2, e3, e4.h, e4.hs.base rfl rfl rfl, e4.y⟩

end Go.Eng
