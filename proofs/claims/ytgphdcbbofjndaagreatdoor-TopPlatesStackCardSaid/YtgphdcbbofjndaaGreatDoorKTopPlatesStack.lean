/- The law TopPlatesStack: its contract, and that it enters and returns. -/
import Derived.Test.YtgphdcbbofjndaaGreatDoorM4
import Derived.Test.YtgphdcbbofjndaaGreatDoorW
import Derived.WalkKit
import Derived.ProofKit
import Derived.OpenShut
import Derived.Deep.DeepHandedRow
import Derived.Lib.LaidTab
namespace Go.Proofs.YtgphdcbbofjndaaGreatDoor.topPlatesStack
open Go.ChangeShapes Go.WideShapes Go.ChangeAt Go.RowKit Go.Eng
theorem plain (x0 : R) (lex0 : UFit (.sl [(.int .i64), (.int .i64)]) (.l x0)) (wex0 : x0.length * 16 ≤ 140737488351232) : (j9 [.r x0]).run = some (0, [.b true]) := qd0 x0 lex0 wex0
theorem own : ownKnob Tryz.prog.godebug = none := by kernel_rfl
theorem laidOut : laidOutB Tryz.prog = true := by kernel_rfl
theorem lay : q2D.all (fun x => qmP x.2) = true := by kernel_rfl
theorem globs {W : World} (h : laidMetH Tryz.prog Rows.topPlatesStackRow.laid W) : q5o qa (qqs W) := by
  have h' : laidMet Tryz.prog Rows.topPlatesStackRow.laid W := h
  exact alc ⟨⟨_, _, _, _, rfl⟩, qqH (E := wL) (q5D q8) lay (name := "internal/strconv.uint64pow10") (d := Rows.laid_internal_strconv_uint64pow10) (t := 241) (n := 8) (by kernel_rfl) (by kernel_rfl) (by kernel_rfl) h' (by simp [Rows.topPlatesStackRow])⟩ (alc ⟨⟨_, _, _, _, rfl⟩, qqH (E := wL) (q5D q8) lay (name := "metrolab/bonus.signs") (d := Rows.laid_metrolab_bonus_signs) (t := 130) (n := 8) (by kernel_rfl) (by kernel_rfl) (by kernel_rfl) h' (by simp [Rows.topPlatesStackRow])⟩ (aln))
set_option maxRecDepth 100000 in
theorem contract (H : Type) (enc : TypeId × Value → H) (W : World) (base : Nat) (args : Array Value) (ds gs : List (DataW H)) (before : List MemPlace)
    (hval : ∀ (j : Nat) t v, Tryz.f3.params[j]? = some t → args[j]? = some v → Value.okWide Tryz.prog W .any base t v)
    (hwt : (DataW.weightsEach Tryz.prog (Tryz.f3.params.toList ++ (OpenSpec.ofChange Rows.topPlatesStackSpec).bare.plain.varTypes Tryz.prog) (ds ++ gs)).all (· ≤ reachBytes) = true)
    (hW : DataW.Whole enc Tryz.prog Tryz.f3.params.toList Rows.topPlatesStackSpec.vars false W args.toList ds gs before) (hL : laidMetH Tryz.prog Rows.topPlatesStackRow.laid W) :
    Calls Tryz.prog 3 args W fun e W' => ∃ v, e = .returned v ∧ Rows.topPlatesStackSpec.post enc Tryz.prog Tryz.f3 false true false false W args v W' := by
  have hW' := hW
  obtain ⟨p, q, hA0, hV, rfl, hfz, hnd⟩ := hW
  have hA : DataW.TrodAll enc Tryz.prog W 0 (fun _ => true) true Tryz.f3.params.toList args.toList ds p := hA0
  rw [Tryz.params3] at hA hval
  obtain ⟨v0, vs0, d0, ds0, p0, q0, hargs, rfl, rfl, h0, r0⟩ := trodAll_cons hA
  obtain ⟨rfl, rfl, rfl⟩ := trodAll_nil r0
  obtain rfl : args = #[v0] := by cases args; simp_all
  obtain ⟨rfl, rfl⟩ := trodVars_none hV
  have k0 := h0
  have lt0 : ∀ x ∈ p0, x.block < W.heap.size := by obtain ⟨m, hm⟩ := k0; exact DataW.trod_lt m _ _ _ hm
  obtain ⟨fit0, rep0⟩ := qv4 (E := wL) (X := qqs W) (n := 8) (sh := [(.sl [(.int .i64), (.int .i64)])]) (q5D q8) lay rfl rfl (by kernel_rfl) (hval 0 22 v0 rfl rfl) h0
  obtain ⟨u0, hu0⟩ : ∃ u, u = qeW d0 := ⟨_, rfl⟩
  rw [← hu0] at fit0 rep0
  obtain ⟨x0, u0t, rfl, lex0, fit0_0⟩ := fit0.sl
  obtain rfl := fit0_0.none
  have wex0 : x0.length * 16 ≤ 140737488351232 := qpi (P := Tryz.prog) (e := 24) hwt 0 rfl rfl (by kernel_rfl) (by kernel_rfl) h0 hu0
  have hrun := qq3 (i := q0D) (outs := q0B) (T := j9) (args := [qqk (wL.ty 22).d.isAgg [(.sl [(.int .i64), (.int .i64)])] [.l x0]]) (ps := [.r x0]) rfl (by kernel_rfl)
    (plain x0 lex0 wex0)
  refine (qqQ q8w (globs hL) (.cons rep0 (.nil)) hrun).mono fun e W' ⟨he, bel⟩ => ?_
  subst he
  exact ⟨_, rfl, _, _, _, [], _, [], hW', trodAll_mk1 (shut_bool Tryz.underlying4 _), trodAll_cons_mk (Below.trod laidOut (by kernel_rfl) (of_decide_eq_true (by kernel_rfl)) k0 bel lt0) (trodAll_mk0), rfl, bel.frame _, fun h => by cases h⟩
set_option maxRecDepth 100000 in
theorem laid_met (os : Os) : laidMet Tryz.prog Rows.topPlatesStackRow.laid ((laidWorld os).forCall (fun _ _ => 0) ⟨#[], #[.slice none 0 0], []⟩).memory :=
  world_met os _
theorem reads (os : Os) {H : Type} (enc : TypeId × Value → H) : ∃ places, DataW.whole enc Tryz.prog ((laidWorld os).forCall (fun _ _ => 0) ⟨#[], #[.slice none 0 0], []⟩).memory Tryz.f3.params.toList Rows.topPlatesStackSpec.vars false (#[.slice none 0 0] : Array Value).toList 8 = some ([.nil], [], places) :=
  ⟨[], by kernel_rfl⟩
set_option maxRecDepth 100000 in
theorem lifted (os : Os) (started : os.Started) (H : Type) (enc : TypeId × Value → H) (F : Stop.Interp) :
    ReturnsInHanded {} Tryz.checked os 3 .any ((OpenSpec.ofChange Rows.topPlatesStackSpec).preRow enc Tryz.prog Tryz.f3 Rows.topPlatesStackRow.domain false Rows.topPlatesStackRow.laid) (((OpenSpec.ofChange Rows.topPlatesStackSpec).at F).post enc Tryz.prog Tryz.f3 false true false false) := by
  obtain ⟨places, hx⟩ := reads os enc
  refine returnsInHanded_of_row (C := Tryz.checked) (s := OpenSpec.ofChange Rows.topPlatesStackSpec) own started (by kernel_rfl) Tryz.func3
    (witness_row_at (enc := enc) (C := Tryz.checked) false (laidWorld os) #[.slice none 0 0] rfl (by kernel_rfl) (by kernel_rfl) (by kernel_rfl)
      (OpenSpec.preRow_of_cond 8 hx (by kernel_rfl) (fun k hk => by cases hk) (by kernel_rfl) (laid_met os))) ?_
  intro W base args ds gs before hval hW _ _ hwt hL _ _
  exact contract H enc W base args ds gs before hval hwt hW hL
end Go.Proofs.YtgphdcbbofjndaaGreatDoor.topPlatesStack
