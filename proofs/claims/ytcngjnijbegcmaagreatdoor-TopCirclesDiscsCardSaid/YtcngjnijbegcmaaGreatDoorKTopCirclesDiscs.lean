/- The law TopCirclesDiscs: its contract, and that it enters and returns. -/
import Derived.Test.YtcngjnijbegcmaaGreatDoorF7
import Derived.Test.YtcngjnijbegcmaaGreatDoorW
import Derived.WalkKit
import Derived.ProofKit
import Derived.OpenShut
import Derived.Deep.DeepHandedRow
import Derived.Lib.LaidTab
namespace Go.Proofs.YtcngjnijbegcmaaGreatDoor.topCirclesDiscs
open Go.ChangeShapes Go.WideShapes Go.ChangeAt Go.RowKit Go.Eng
theorem plain (x0 : R) (x1 : Int) (x2 : Int) (lex0 : UFit (.sl [(.int .i64), (.int .i64)]) (.l x0)) (wex0 : x0.length * 16 ≤ 140737488351232) (lox1 : IntKind.min .u16 ≤ x1) (hix1 : x1 ≤ IntKind.max .u16) (lox2 : IntKind.min .u16 ≤ x2) (hix2 : x2 ≤ IntKind.max .u16) : (vr [.r x0, .i x1, .i x2]).run = some (0, [.b true]) := qhz x0 x1 x2 lex0 wex0 lox1 hix1 lox2 hix2
theorem own : ownKnob Tryz.prog.godebug = none := by kernel_rfl
theorem laidOut : laidOutB Tryz.prog = true := by kernel_rfl
theorem lay : q7b.all (fun x => qvC x.2) = true := by kernel_rfl
theorem globs {W : World} (h : laidMetH Tryz.prog Rows.topCirclesDiscsRow.laid W) : q5D qa (qvb W) := by
  have h' : laidMet Tryz.prog Rows.topCirclesDiscsRow.laid W := h
  exact alc ⟨⟨_, _, _, _, rfl⟩, qGp (E := zp) (q6Q q8) lay (name := "internal/strconv.uint64pow10") (d := Rows.laid_internal_strconv_uint64pow10) (t := 291) (n := 8) (by kernel_rfl) (by kernel_rfl) (by kernel_rfl) h' (by simp [Rows.topCirclesDiscsRow])⟩ (aln)
set_option maxRecDepth 100000 in
theorem contract (H : Type) (enc : TypeId × Value → H) (W : World) (base : Nat) (args : Array Value) (ds gs : List (DataW H)) (before : List MemPlace)
    (hval : ∀ (j : Nat) t v, Tryz.f5.params[j]? = some t → args[j]? = some v → Value.okWide Tryz.prog W .any base t v)
    (hwt : (DataW.weightsEach Tryz.prog (Tryz.f5.params.toList ++ (OpenSpec.ofChange Rows.topCirclesDiscsSpec).bare.plain.varTypes Tryz.prog) (ds ++ gs)).all (· ≤ reachBytes) = true)
    (hW : DataW.Whole enc Tryz.prog Tryz.f5.params.toList Rows.topCirclesDiscsSpec.vars false W args.toList ds gs before) (hL : laidMetH Tryz.prog Rows.topCirclesDiscsRow.laid W) :
    Calls Tryz.prog 5 args W fun e W' => ∃ v, e = .returned v ∧ Rows.topCirclesDiscsSpec.post enc Tryz.prog Tryz.f5 false true false false W args v W' := by
  have hW' := hW
  obtain ⟨p, q, hA0, hV, rfl, hfz, hnd⟩ := hW
  have hA : DataW.TrodAll enc Tryz.prog W 0 (fun _ => true) true Tryz.f5.params.toList args.toList ds p := hA0
  rw [Tryz.params5] at hA hval
  obtain ⟨v0, vs0, d0, ds0, p0, q0, hargs, rfl, rfl, h0, r0⟩ := trodAll_cons hA
  obtain ⟨v1, vs1, d1, ds1, p1, q1, rfl, rfl, rfl, h1, r1⟩ := trodAll_cons r0
  obtain ⟨v2, vs2, d2, ds2, p2, q2, rfl, rfl, rfl, h2, r2⟩ := trodAll_cons r1
  obtain ⟨rfl, rfl, rfl⟩ := trodAll_nil r2
  obtain rfl : args = #[v0, v1, v2] := by cases args; simp_all
  obtain ⟨rfl, rfl⟩ := trodVars_none hV
  have k0 := h0
  have lt0 : ∀ x ∈ p0, x.block < W.heap.size := by obtain ⟨m, hm⟩ := k0; exact DataW.trod_lt m _ _ _ hm
  obtain ⟨fit0, rep0⟩ := qwp (E := zp) (X := qvb W) (n := 8) (sh := [(.sl [(.int .i64), (.int .i64)])]) (q6Q q8) lay rfl rfl (by kernel_rfl) (hval 0 22 v0 rfl rfl) h0
  obtain ⟨u0, hu0⟩ : ∃ u, u = qjw d0 := ⟨_, rfl⟩
  rw [← hu0] at fit0 rep0
  obtain ⟨x0, u0t, rfl, lex0, fit0_0⟩ := fit0.sl
  obtain rfl := fit0_0.none
  have k1 := h1
  have lt1 : ∀ x ∈ p1, x.block < W.heap.size := by obtain ⟨m, hm⟩ := k1; exact DataW.trod_lt m _ _ _ hm
  obtain ⟨fit1, rep1⟩ := qwp (E := zp) (X := qvb W) (n := 8) (sh := [(.int .u16)]) (q6Q q8) lay rfl rfl (by kernel_rfl) (hval 1 55 v1 rfl rfl) h1
  obtain ⟨u1, hu1⟩ : ∃ u, u = qjw d1 := ⟨_, rfl⟩
  rw [← hu1] at fit1 rep1
  obtain ⟨x1, u1t, rfl, lox1, hix1, fit1_0⟩ := fit1.int
  obtain rfl := fit1_0.none
  have k2 := h2
  have lt2 : ∀ x ∈ p2, x.block < W.heap.size := by obtain ⟨m, hm⟩ := k2; exact DataW.trod_lt m _ _ _ hm
  obtain ⟨fit2, rep2⟩ := qwp (E := zp) (X := qvb W) (n := 8) (sh := [(.int .u16)]) (q6Q q8) lay rfl rfl (by kernel_rfl) (hval 2 55 v2 rfl rfl) h2
  obtain ⟨u2, hu2⟩ : ∃ u, u = qjw d2 := ⟨_, rfl⟩
  rw [← hu2] at fit2 rep2
  obtain ⟨x2, u2t, rfl, lox2, hix2, fit2_0⟩ := fit2.int
  obtain rfl := fit2_0.none
  have wex0 : x0.length * 16 ≤ 140737488351232 := qzq (P := Tryz.prog) (e := 26) hwt 0 rfl rfl (by kernel_rfl) (by kernel_rfl) h0 hu0
  have hrun := qyH (i := q2X) (outs := q2Q) (T := vr) (args := [qv5 (zp.ty 22).d.isAgg [(.sl [(.int .i64), (.int .i64)])] [.l x0], qv5 (zp.ty 55).d.isAgg [(.int .u16)] [.i x1], qv5 (zp.ty 55).d.isAgg [(.int .u16)] [.i x2]]) (ps := [.r x0, .i x1, .i x2]) rfl (by kernel_rfl)
    (plain x0 x1 x2 lex0 wex0 lox1 hix1 lox2 hix2)
  refine (qA2 qdo (globs hL) (.cons rep0 (.cons rep1 (.cons rep2 (.nil)))) hrun).mono fun e W' ⟨he, bel⟩ => ?_
  subst he
  exact ⟨_, rfl, _, _, _, [], _, [], hW', trodAll_mk1 (shut_bool Tryz.underlying4 _), trodAll_cons_mk (Below.trod laidOut (by kernel_rfl) (of_decide_eq_true (by kernel_rfl)) k0 bel lt0) (trodAll_cons_mk (Below.trod laidOut (by kernel_rfl) (of_decide_eq_true (by kernel_rfl)) k1 bel lt1) (trodAll_cons_mk (Below.trod laidOut (by kernel_rfl) (of_decide_eq_true (by kernel_rfl)) k2 bel lt2) (trodAll_mk0))), rfl, bel.frame _, fun h => by cases h⟩
set_option maxRecDepth 100000 in
theorem laid_met (os : Os) : laidMet Tryz.prog Rows.topCirclesDiscsRow.laid ((laidWorld os).forCall (fun _ _ => 0) ⟨#[], #[.slice none 0 0, .int .u16 0, .int .u16 0], []⟩).memory :=
  world_met os _
theorem reads (os : Os) {H : Type} (enc : TypeId × Value → H) : ∃ places, DataW.whole enc Tryz.prog ((laidWorld os).forCall (fun _ _ => 0) ⟨#[], #[.slice none 0 0, .int .u16 0, .int .u16 0], []⟩).memory Tryz.f5.params.toList Rows.topCirclesDiscsSpec.vars false (#[.slice none 0 0, .int .u16 0, .int .u16 0] : Array Value).toList 8 = some ([.nil, .lit (.int .u16 0), .lit (.int .u16 0)], [], places) :=
  ⟨[], by kernel_rfl⟩
set_option maxRecDepth 100000 in
theorem lifted (os : Os) (started : os.Started) (H : Type) (enc : TypeId × Value → H) (F : Stop.Interp) :
    ReturnsInHanded {} Tryz.checked os 5 .any ((OpenSpec.ofChange Rows.topCirclesDiscsSpec).preRow enc Tryz.prog Tryz.f5 Rows.topCirclesDiscsRow.domain false Rows.topCirclesDiscsRow.laid) (((OpenSpec.ofChange Rows.topCirclesDiscsSpec).at F).post enc Tryz.prog Tryz.f5 false true false false) := by
  obtain ⟨places, hx⟩ := reads os enc
  refine returnsInHanded_of_row (C := Tryz.checked) (s := OpenSpec.ofChange Rows.topCirclesDiscsSpec) own started (by kernel_rfl) Tryz.func5
    (witness_row_at (enc := enc) (C := Tryz.checked) false (laidWorld os) #[.slice none 0 0, .int .u16 0, .int .u16 0] rfl (by kernel_rfl) (by kernel_rfl) (by kernel_rfl)
      (OpenSpec.preRow_of_cond 8 hx (by kernel_rfl) (fun k hk => by cases hk) (by kernel_rfl) (laid_met os))) ?_
  intro W base args ds gs before hval hW _ _ hwt hL _ _
  exact contract H enc W base args ds gs before hval hwt hW hL
end Go.Proofs.YtcngjnijbegcmaaGreatDoor.topCirclesDiscs
