/- The law TopCirclesCenters: its contract, and that it enters and returns. -/
import Derived.Test.YtcngjnijbegcmaaGreatDoorM7
import Derived.Test.YtcngjnijbegcmaaGreatDoorW
import Derived.WalkKit
import Derived.ProofKit
import Derived.OpenShut
import Derived.Deep.DeepHandedRow
import Derived.Lib.LaidTab
namespace Go.Proofs.YtcngjnijbegcmaaGreatDoor.topCirclesCenters
open Go.ChangeShapes Go.WideShapes Go.ChangeAt Go.RowKit Go.Eng
theorem plain (x0 : R) (x1 : Int) (x2 : Int) (lex0 : UFit (.sl [(.int .i64), (.int .i64)]) (.l x0)) (wex0 : x0.length * 16 ≤ 140737488351232) (lox1 : IntKind.min .i64 ≤ x1) (hix1 : x1 ≤ IntKind.max .i64) (lox2 : IntKind.min .i64 ≤ x2) (hix2 : x2 ≤ IntKind.max .i64) : (vr [.r x0, .i x1, .i x2]).run = some (0, [.b true]) := qcD x0 x1 x2 lex0 wex0 lox1 hix1 lox2 hix2
theorem own : ownKnob Tryz.prog.godebug = none := by kernel_rfl
theorem laidOut : laidOutB Tryz.prog = true := by kernel_rfl
theorem lay : q25.all (fun x => qrv x.2) = true := by kernel_rfl
theorem globs {W : World} (h : laidMetH Tryz.prog Rows.topCirclesCentersRow.laid W) : q3z qa (qsE W) := by
  have h' : laidMet Tryz.prog Rows.topCirclesCentersRow.laid W := h
  exact alc ⟨⟨_, _, _, _, rfl⟩, qAp (E := zv) (q4R q8) lay (name := "internal/strconv.uint64pow10") (d := Rows.laid_internal_strconv_uint64pow10) (t := 291) (n := 8) (by kernel_rfl) (by kernel_rfl) (by kernel_rfl) h' (by simp [Rows.topCirclesCentersRow])⟩ (aln)
set_option maxRecDepth 100000 in
theorem contract (H : Type) (enc : TypeId × Value → H) (W : World) (base : Nat) (args : Array Value) (ds gs : List (DataW H)) (before : List MemPlace)
    (hval : ∀ (j : Nat) t v, Tryz.f4.params[j]? = some t → args[j]? = some v → Value.okWide Tryz.prog W .any base t v)
    (hwt : (DataW.weightsEach Tryz.prog (Tryz.f4.params.toList ++ (OpenSpec.ofChange Rows.topCirclesCentersSpec).bare.plain.varTypes Tryz.prog) (ds ++ gs)).all (· ≤ reachBytes) = true)
    (hW : DataW.Whole enc Tryz.prog Tryz.f4.params.toList Rows.topCirclesCentersSpec.vars false W args.toList ds gs before) (hL : laidMetH Tryz.prog Rows.topCirclesCentersRow.laid W) :
    Calls Tryz.prog 4 args W fun e W' => ∃ v, e = .returned v ∧ Rows.topCirclesCentersSpec.post enc Tryz.prog Tryz.f4 false true false false W args v W' := by
  have hW' := hW
  obtain ⟨p, q, hA0, hV, rfl, hfz, hnd⟩ := hW
  have hA : DataW.TrodAll enc Tryz.prog W 0 (fun _ => true) true Tryz.f4.params.toList args.toList ds p := hA0
  rw [Tryz.params4] at hA hval
  obtain ⟨v0, vs0, d0, ds0, p0, q0, hargs, rfl, rfl, h0, r0⟩ := trodAll_cons hA
  obtain ⟨v1, vs1, d1, ds1, p1, q1, rfl, rfl, rfl, h1, r1⟩ := trodAll_cons r0
  obtain ⟨rfl, rfl, rfl⟩ := trodAll_nil r1
  obtain rfl : args = #[v0, v1] := by cases args; simp_all
  obtain ⟨rfl, rfl⟩ := trodVars_none hV
  have k0 := h0
  have lt0 : ∀ x ∈ p0, x.block < W.heap.size := by obtain ⟨m, hm⟩ := k0; exact DataW.trod_lt m _ _ _ hm
  obtain ⟨fit0, rep0⟩ := qwI (E := zv) (X := qsE W) (n := 8) (sh := [(.sl [(.int .i64), (.int .i64)])]) (q4R q8) lay rfl rfl (by kernel_rfl) (hval 0 22 v0 rfl rfl) h0
  obtain ⟨u0, hu0⟩ : ∃ u, u = qht d0 := ⟨_, rfl⟩
  rw [← hu0] at fit0 rep0
  obtain ⟨x0, u0t, rfl, lex0, fit0_0⟩ := fit0.sl
  obtain rfl := fit0_0.none
  have k1 := h1
  have lt1 : ∀ x ∈ p1, x.block < W.heap.size := by obtain ⟨m, hm⟩ := k1; exact DataW.trod_lt m _ _ _ hm
  obtain ⟨fit1, rep1⟩ := qwI (E := zv) (X := qsE W) (n := 8) (sh := [(.int .i64), (.int .i64)]) (q4R q8) lay rfl rfl (by kernel_rfl) (hval 1 26 v1 rfl rfl) h1
  obtain ⟨u1, hu1⟩ : ∃ u, u = qht d1 := ⟨_, rfl⟩
  rw [← hu1] at fit1 rep1
  obtain ⟨x1, u1t, rfl, lox1, hix1, fit1_0⟩ := fit1.int
  obtain ⟨x2, u1t, rfl, lox2, hix2, fit1_1⟩ := fit1_0.int
  obtain rfl := fit1_1.none
  have wex0 : x0.length * 16 ≤ 140737488351232 := qtF (P := Tryz.prog) (e := 26) hwt 0 rfl rfl (by kernel_rfl) (by kernel_rfl) h0 hu0
  have hrun := qtu (i := q04) (outs := q05) (T := vr) (args := [qrU (zv.ty 22).d.isAgg [(.sl [(.int .i64), (.int .i64)])] [.l x0], qrU (zv.ty 26).d.isAgg [(.int .i64), (.int .i64)] [.i x1, .i x2]]) (ps := [.r x0, .i x1, .i x2]) rfl (by kernel_rfl)
    (plain x0 x1 x2 lex0 wex0 lox1 hix1 lox2 hix2)
  refine (qwk q8r (globs hL) (.cons rep0 (.cons rep1 (.nil))) hrun).mono fun e W' ⟨he, bel⟩ => ?_
  subst he
  exact ⟨_, rfl, _, _, _, [], _, [], hW', trodAll_mk1 (shut_bool Tryz.underlying4 _), trodAll_cons_mk (Below.trod laidOut (by kernel_rfl) (of_decide_eq_true (by kernel_rfl)) k0 bel lt0) (trodAll_cons_mk (Below.trod laidOut (by kernel_rfl) (of_decide_eq_true (by kernel_rfl)) k1 bel lt1) (trodAll_mk0)), rfl, bel.frame _, fun h => by cases h⟩
set_option maxRecDepth 100000 in
theorem laid_met (os : Os) : laidMet Tryz.prog Rows.topCirclesCentersRow.laid ((laidWorld os).forCall (fun _ _ => 0) ⟨#[], #[.slice none 0 0, .agg #[.int .i64 0, .int .i64 0]], []⟩).memory :=
  world_met os _
theorem reads (os : Os) {H : Type} (enc : TypeId × Value → H) : ∃ places, DataW.whole enc Tryz.prog ((laidWorld os).forCall (fun _ _ => 0) ⟨#[], #[.slice none 0 0, .agg #[.int .i64 0, .int .i64 0]], []⟩).memory Tryz.f4.params.toList Rows.topCirclesCentersSpec.vars false (#[.slice none 0 0, .agg #[.int .i64 0, .int .i64 0]] : Array Value).toList 8 = some ([.nil, .agg [.lit (.int .i64 0), .lit (.int .i64 0)]], [], places) :=
  ⟨[], by kernel_rfl⟩
set_option maxRecDepth 100000 in
theorem lifted (os : Os) (started : os.Started) (H : Type) (enc : TypeId × Value → H) (F : Stop.Interp) :
    ReturnsInHanded {} Tryz.checked os 4 .any ((OpenSpec.ofChange Rows.topCirclesCentersSpec).preRow enc Tryz.prog Tryz.f4 Rows.topCirclesCentersRow.domain false Rows.topCirclesCentersRow.laid) (((OpenSpec.ofChange Rows.topCirclesCentersSpec).at F).post enc Tryz.prog Tryz.f4 false true false false) := by
  obtain ⟨places, hx⟩ := reads os enc
  refine returnsInHanded_of_row (C := Tryz.checked) (s := OpenSpec.ofChange Rows.topCirclesCentersSpec) own started (by kernel_rfl) Tryz.func4
    (witness_row_at (enc := enc) (C := Tryz.checked) false (laidWorld os) #[.slice none 0 0, .agg #[.int .i64 0, .int .i64 0]] rfl (by kernel_rfl) (by kernel_rfl) (by kernel_rfl)
      (OpenSpec.preRow_of_cond 8 hx (by kernel_rfl) (fun k hk => by cases hk) (by kernel_rfl) (laid_met os))) ?_
  intro W base args ds gs before hval hW _ _ hwt hL _ _
  exact contract H enc W base args ds gs before hval hwt hW hL
end Go.Proofs.YtcngjnijbegcmaaGreatDoor.topCirclesCenters
