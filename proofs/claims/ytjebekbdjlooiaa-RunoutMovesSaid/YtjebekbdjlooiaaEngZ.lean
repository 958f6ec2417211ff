/- ENGINE Z. From a contract to what a law's row asks. -/
import Derived.Test.YtjebekbdjlooiaaEngY
import Derived.SizedLaws
import Derived.Below
import Derived.Lib.LaidTab
namespace Go.Eng
open Go.RowKit

inductive UFits : List Sh → List U → Prop
  | nil : UFits [] []
  | cons {s : Sh} {u : U} {sh : List Sh} {us : List U} (h : UFit s u) (t : UFits sh us) : UFits (s :: sh) (u :: us)

theorem CR.fits {W : World} {M : Nat → Prop} {a : List Sh} {b : List U} {c : List Value} (h : CR W M a b c) : UFits a b := by
  induction h with
  | nil => exact .nil
  | cons h f t ih => exact .cons f ih

def cellsOfU : List Sh → List U → List AV
  | .int k :: sh, u :: us => .int k u.toI :: cellsOfU sh us
  | .bool :: sh, u :: us => .bool u.toB :: cellsOfU sh us
  | .str :: sh, u :: us => .str u.toS :: cellsOfU sh us
  | .sl row :: sh, u :: us => .imm row u.toR :: cellsOfU sh us
  | _, _ => []

theorem rep_cellsU {X : Ctx} {sh : List Sh} {us : List U} {vs : List Value} (h : CR X.w X.M sh us vs) : RepL X (cellsOfU sh us) vs := by
  induction h with
  | nil => exact .nil
  | cons h f t ih =>
    rename_i s u v sh us vs
    cases s with
    | int k => cases h; exact .cons (.int _ _) ih
    | bool => cases h; exact .cons (.bool _) ih
    | str => cases h; exact .cons (.str _) ih
    | sl row => exact .cons (.imm _ _ _ (immAt_of_repU h)) ih

def argAV (agg : Bool) (sh : List Sh) (us : List U) : AV := match agg with
  | true => .agg (cellsOfU sh us)
  | false => (cellsOfU sh us).headD .undef

section
variable {H : Type} {enc : TypeId × Value → H} {P : Program} {W : World} {base : Nat} {sp : Nat → Bool} {held : Bool} {E : Env}

theorem arg_rep (hE : E.tok P) (hlay : E.tt.all (fun x => layOk x.2) = true) {X : Ctx} (hw : X.w = W) (hM : X.M = fun b => b < W.heap.size) {r : Reach} {b0 : Nat} {n : Nat} {t : TypeId} {v : Value} {d : DataW H} {ps : List MemPlace} {sh : List Sh}
    (hsh : E.shape n t = some sh) (hv : Value.okWide P W r b0 t v) (hd : DataW.Trod enc P W base sp held t v d ps) : UFits sh (flat d) ∧ Rep X (argAV (E.ty t).d.isAgg sh (flat d)) v := by
  obtain ⟨fuel, hf⟩ := hd
  have hc := trod_rep hE hlay fuel n t _ d ps sh hsh hf
  refine ⟨hc.fits, ?_⟩
  have hr : RepL X (cellsOfU sh (flat d)) v.cells.toList := rep_cellsU (by rw [hw, hM]; exact hc)
  have hone : ∀ (_ : (E.ty t).d.isAgg = false), v.cells = #[v] → Rep X (argAV (E.ty t).d.isAgg sh (flat d)) v := by
    intro ha hcell
    rw [ha]
    rw [hcell] at hr
    simp only [argAV]
    generalize cellsOfU sh (flat d) = l at hr
    cases hr with
    | cons h1 h2 => simpa using h1
  unfold Value.okWide at hv
  cases n with
  | zero => simp [Env.shape] at hsh
  | succ n =>
    simp only [Env.shape] at hsh
    cases hd : (E.ty t).d <;> rw [hd] at hsh hone <;> simp only at hsh <;> try (cases hsh)
    · rw [ty_bool hE hd] at hv
      refine hone rfl ?_
      cases v <;> simp [Cell.okWide, ty_bool hE hd, Cell.ok] at hv <;> rfl
    · rw [ty_int hE hd] at hv
      refine hone rfl ?_
      cases v <;> simp [Cell.okWide, ty_int hE hd, Cell.ok] at hv <;> rfl
    · rw [ty_str hE hd] at hv
      refine hone rfl ?_
      cases v <;> simp [Cell.okWide, ty_str hE hd, Cell.ok] at hv <;> rfl
    · rw [(ty_slice hE hd).1] at hv
      refine hone rfl ?_
      cases v <;> simp [Cell.okWide, (ty_slice hE hd).1, Cell.ok] at hv <;> rfl
    · rw [(ty_array hE hd).1] at hv
      obtain ⟨cs, rfl, _, _⟩ := hv
      simp only [TD.isAgg, argAV]
      exact .agg _ _ (by simpa [Value.cells] using hr)
    · obtain ⟨fields, ht, _⟩ := ty_struct hE hd
      rw [ht] at hv
      obtain ⟨cs, rfl, _, _⟩ := hv
      simp only [TD.isAgg, argAV]
      exact .agg _ _ (by simpa [Value.cells] using hr)
end

/-- an argument that is a slice takes no more bytes than a process has -/
theorem weight_arg {H : Type} {enc : TypeId × Value → H} {P : Program} {W : World} {base : Nat} {sp : Nat → Bool} {held : Bool} {ts : List TypeId} {ds : List (DataW H)} (h : (DataW.weightsEach P ts ds).all (· ≤ reachBytes) = true)
    (j : Nat) {t e : TypeId} {v : Value} {d : DataW H} {ps : List MemPlace} {x : R} {b : Nat} (ht : ts[j]? = some t) (hd : ds[j]? = some d) (hu : P.underlying t = some (.slice e)) (hb : P.bytesOf e = b)
    (htr : DataW.Trod enc P W base sp held t v d ps) (hx : [.l x] = flat d) : x.length * b ≤ 140737488351232 := by
  have he : x.length = 0 ∨ ∃ es spr, d = .slice es spr ∧ x.length = es.length := by
    obtain ⟨fuel, hf⟩ := htr
    rcases DataW.trod_slice hu hf with ⟨_, hx'⟩ | ⟨_, _, _, elems, rest, _, _, _, hx', _⟩
    · cases hx'
      simp only [flat, List.cons.injEq, U.l.injEq, and_true] at hx
      rw [hx]; exact .inl rfl
    · cases hx'
      simp only [flat, List.cons.injEq, U.l.injEq, and_true] at hx
      exact .inr ⟨_, _, rfl, by rw [hx, rowsD_eq]; simp⟩
  rcases he with he | ⟨es, spr, rfl, he⟩
  · rw [he]; omega
  · have := List.all_eq_true.1 h _ (DataW.weights_mem_each ht hd ((es.length + spr.length) * P.bytesOf e) (by simp [DataW.weights, hu]))
    have h2 : (es.length + spr.length) * P.bytesOf e ≤ reachBytes := by simpa using this
    rw [hb] at h2
    rw [he]
    have h3 : es.length * b ≤ (es.length + spr.length) * b := Nat.mul_le_mul_right _ (by omega)
    have h4 : reachBytes = 140737488351232 := rfl
    omega

/-! ### The world in which a law is called -/
def ctx0 (W : World) : Ctx := { σ := fun _ => none, h := [], w := W, M := fun b => b < W.heap.size }
def base0 (W : World) : Base := { w0 := W, imps := [], M0 := fun b => b < W.heap.size, fs := [] }

theorem hsim0 (W : World) : HSim (base0 W) (ctx0 W) := by
  have hno : ∀ b n, ¬ (ctx0 W).own b n := by
    intro b n ⟨h, _⟩; cases h
  refine ⟨fun b k h => ?_, fun b b' n h => absurd h (hno b n), fun b n h => absurd h (hno b n), fun n h => h, fun n h => h, fun n h => .inl h, rfl, rfl, rfl, Nat.le_refl _, fun _ _ _ => rfl, fun b h => ?_, fun b h => ?_, fun b n h => absurd h (hno b n), fun p hp => by cases hp⟩
  · have : ([] : List Blk)[b]? = some k := h
    simp at this
  · exact absurd h (by simp [base0])
  · exact absurd h (by simp [base0])

theorem entry0 (W : World) : Entry (base0 W) (ctx0 W) := ⟨rfl, rfl, fun _ h => h⟩

/-- A LAW THAT ANSWERS true BY ITS CONTRACT -/
theorem law_calls {P : Program} {gl : List (Nat × AV)} {f : FuncId} {G : Contract} (hG : Spec P gl f G) {W : World} (hgl : GlobOk gl (ctx0 W)) {args : List AV} {vargs : List Value} (ha : RepL (ctx0 W) args vargs)
    (h : (G args []).run = some (.bool true, [])) : Calls P f vargs.toArray W fun e W' => e = .returned (.bool true) ∧ Below W.heap.size W W' := by
  refine (hG.2 (base0 W) (ctx0 W) args vargs _ (hsim0 W) (entry0 W) hgl ha h).mono fun e W' ⟨v, X', e1, e2, e3, e4, e5, _⟩ => ?_
  subst e2
  refine ⟨?_, e5.os, e5.tape, e5.output, e5.size, fun k hk => e5.frame k hk (by simp [base0])⟩
  rw [e1]
  cases e3; rfl

theorem specG_true {i : FIn} {outs : List FOut} {T : List PV → TR} {args : List AV} {ps : List PV} (ho : outs = [{ res := .bool, h := [] }]) (hi : i.take args [] = some ps) (hT : (T ps).run = some (0, [.b true])) :
    (specG i outs T args []).run = some (.bool true, []) := by
  subst ho
  unfold specG
  rw [hi]
  simp only [Tree.run, okR, hT, Option.isSome_some]
  simp only [outF, FOut.kinds, AP.kinds, BP.kindsL, List.append_nil, outPV, gB, pR, hT, List.getD_cons_zero, PV.toB, FOut.make, AP.make, BP.makeL, Tree.run]

theorem glob_of {P : Program} {W : World} {E : Env} (hE : E.tok P) (hlay : E.tt.all (fun x => layOk x.2) = true) {name : String} {g n : Nat} {t : TypeId} {d : DataW Unit} {sh : List Sh}
    (hg : P.globalNamed name = some g) (hty : (P.globals[g]?).map (·.type) = some t) (hsh : E.shape n t = some sh) {ds : List (String × DataW Unit)} (h : laidMet P ds W) (hm : (name, d) ∈ ds) :
    Rep (ctx0 W) (.eptr sh [flat d] 0 0) (.pointer (some ⟨g, 0, none⟩)) := by
  obtain ⟨ps, hl, _⟩ := h
  have key : ∀ (ds : List (String × DataW Unit)) (ps : List MemPlace), DataW.LaidVars P W ds ps → (name, d) ∈ ds → ∃ cs fuel p, W.var? P name = some cs ∧ DataW.trod (fun _ => ()) P W 0 (fun _ => true) false fuel t cs.toList = some (d, p) := by
    intro ds
    induction ds with
    | nil => intro ps _ h; cases h
    | cons x ds ih =>
      intro ps hl hm
      obtain ⟨nm, dd⟩ := x
      obtain ⟨g', t', cs, fuel, p, q, h1, h2, h3, h4, h5, _⟩ := hl
      rcases List.mem_cons.1 hm with he | hm
      · cases he
        obtain rfl := Option.some.inj (hg.symm.trans h1)
        obtain rfl := Option.some.inj (hty.symm.trans h2)
        exact ⟨cs, fuel, p, h3, h4⟩
      · exact ih q h5 hm
  obtain ⟨cs, fuel, p, h3, h4⟩ := key ds ps hl hm
  have hc := trod_rep hE hlay fuel n t _ d p sh hsh h4
  suffices hs : Rows (ctx0 W).w (ctx0 W).M sh [flat d] ⟨g, 0, none⟩ by
    have := Rep.eptr (X := ctx0 W) sh [flat d] 0 0 ⟨g, 0, none⟩ rfl (Int.le_refl _) (by simp) hs
    simpa using this
  intro r j hj hr
  have hr0 : r = 0 := by simpa using hr
  subst hr0
  obtain ⟨u, v, e1, e2, e3, _⟩ := hc.get j sh[j] (List.getElem?_eq_getElem hj)
  have hcell : W.cell? ⟨g, j, none⟩ = some v := by
    have := World.var?_cell hg h3 j
    rw [this]; simpa using e2
  refine ⟨World.block_lt_of_cell? W ⟨g, j, none⟩ hcell, v, ?_, ?_⟩
  · rw [Nat.zero_mul, Nat.add_zero, Nat.zero_add]; exact hcell
  have : cellU [flat d] (0 : Nat) j = u := by simp [cellU, List.getD_eq_getElem?_getD, e1]
  rw [this]; exact e3

theorem UFits.int {k : IntKind} {sh : List Sh} {us : List U} (h : UFits (.int k :: sh) us) : ∃ n us', us = .i n :: us' ∧ k.min ≤ n ∧ n ≤ k.max ∧ UFits sh us' := by
  cases h with
  | cons h t => cases h with
    | int k n h0 h1 => exact ⟨n, _, rfl, h0, h1, t⟩
theorem UFits.bool {sh : List Sh} {us : List U} (h : UFits (.bool :: sh) us) : ∃ b us', us = .b b :: us' ∧ UFits sh us' := by
  cases h with
  | cons h t => cases h with
    | bool b => exact ⟨b, _, rfl, t⟩
theorem UFits.str {sh : List Sh} {us : List U} (h : UFits (.str :: sh) us) : ∃ s us', us = .s s :: us' ∧ s.length ≤ maxLen ∧ UFits sh us' := by
  cases h with
  | cons h t => cases h with
    | str s h0 => exact ⟨s, _, rfl, h0, t⟩
theorem UFits.sl {row sh : List Sh} {us : List U} (h : UFits (.sl row :: sh) us) : ∃ l us', us = .l l :: us' ∧ UFit (.sl row) (.l l) ∧ UFits sh us' := by
  cases h with
  | cons h t =>
    rename_i u us
    cases u with
    | l x => exact ⟨x, _, rfl, h, t⟩
    | _ => cases h
theorem UFits.none {us : List U} (h : UFits [] us) : us = [] := by cases h; rfl

end Go.Eng
