/- The law RunoutMoves returns true for every input; its arguments read behind the call as before. No condition. -/
import Derived.Test.YtjebekbdjlooiaaPRun7
import Derived.Test.YtjebekbdjlooiaaEngZ
import Derived.Test.YtjebekbdjlooiaaRows
import Derived.WalkKit
import Derived.ProofKit
import Derived.OpenShut
import Derived.Deep.DeepHandedRow
import Derived.Lib.LaidTab
namespace Go.Proofs.Ytjebekbdjlooiaa.runoutMoves
open Go.ChangeShapes Go.WideShapes Go.ChangeAt Go.RowKit Go.Eng
theorem plain (x0 : R) (x1 : Int) (x2 : Int) (x3 : Int) (x4 : Int) (lex0 : UFit (.sl [(.int .i64), (.sl [(.int .i64), (.int .i64)])]) (.l x0)) (wex0 : x0.length * 32 ≤ 140737488351232) (lox1 : IntKind.min .i64 ≤ x1) (hix1 : x1 ≤ IntKind.max .i64) (lox2 : IntKind.min .i64 ≤ x2) (hix2 : x2 ≤ IntKind.max .i64) (lox3 : IntKind.min .i64 ≤ x3) (hix3 : x3 ≤ IntKind.max .i64) (lox4 : IntKind.min .i64 ≤ x4) (hix4 : x4 ≤ IntKind.max .i64) : (law38_RunoutMoves_T [.r x0, .i x1, .i x2, .i x3, .i x4]).run = some (0, [.b true]) := plainRunoutMoves x0 x1 x2 x3 x4 lex0 wex0 lox1 hix1 lox2 hix2 lox3 hix3 lox4 hix4
theorem own : ownKnob Try.prog.godebug = none := by kernel_rfl
theorem laidOut : laidOutB Try.prog = true := by kernel_rfl
theorem lay : seat_TT.all (fun x => layOk x.2) = true := by kernel_rfl
theorem globs {W : World} (h : laidMetH Try.prog Rows.runoutMovesRow.laid W) : GlobOk seat_GL (ctx0 W) := by
  exact all_nil
set_option maxRecDepth 100000 in
theorem contract (H : Type) (enc : TypeId × Value → H) (W : World) (base : Nat) (args : Array Value) (ds gs : List (DataW H)) (before : List MemPlace)
    (hval : ∀ (j : Nat) t v, Try.f8.params[j]? = some t → args[j]? = some v → Value.okWide Try.prog W .any base t v)
    (hwt : (DataW.weightsEach Try.prog (Try.f8.params.toList ++ (OpenSpec.ofChange Rows.runoutMovesSpec).bare.plain.varTypes Try.prog) (ds ++ gs)).all (· ≤ reachBytes) = true)
    (hW : DataW.Whole enc Try.prog Try.f8.params.toList Rows.runoutMovesSpec.vars false W args.toList ds gs before) (hL : laidMetH Try.prog Rows.runoutMovesRow.laid W) :
    Calls Try.prog 8 args W fun e W' => ∃ v, e = .returned v ∧ Rows.runoutMovesSpec.post enc Try.prog Try.f8 false true false false W args v W' := by
  have hW' := hW
  obtain ⟨p, q, hA0, hV, rfl, hfz, hnd⟩ := hW
  have hA : DataW.TrodAll enc Try.prog W 0 (fun _ => true) true Try.f8.params.toList args.toList ds p := hA0
  rw [Try.params8] at hA hval
  obtain ⟨v0, vs0, d0, ds0, p0, q0, hargs, rfl, rfl, h0, r0⟩ := trodAll_cons hA
  obtain ⟨v1, vs1, d1, ds1, p1, q1, rfl, rfl, rfl, h1, r1⟩ := trodAll_cons r0
  obtain ⟨v2, vs2, d2, ds2, p2, q2, rfl, rfl, rfl, h2, r2⟩ := trodAll_cons r1
  obtain ⟨rfl, rfl, rfl⟩ := trodAll_nil r2
  obtain rfl : args = #[v0, v1, v2] := by cases args; simp_all
  obtain ⟨rfl, rfl⟩ := trodVars_none hV
  have k0 := h0
  have lt0 : ∀ x ∈ p0, x.block < W.heap.size := by obtain ⟨m, hm⟩ := k0; exact DataW.trod_lt m _ _ _ hm
  obtain ⟨fit0, rep0⟩ := arg_rep (E := law38_RunoutMoves_E) (X := ctx0 W) (n := 8) (sh := [(.sl [(.int .i64), (.sl [(.int .i64), (.int .i64)])])]) (tok_of seat_TTok) lay rfl rfl (by kernel_rfl) (hval 0 22 v0 rfl rfl) h0
  obtain ⟨u0, hu0⟩ : ∃ u, u = flat d0 := ⟨_, rfl⟩
  rw [← hu0] at fit0 rep0
  obtain ⟨x0, u0t, rfl, lex0, fit0_0⟩ := fit0.sl
  obtain rfl := fit0_0.none
  have k1 := h1
  have lt1 : ∀ x ∈ p1, x.block < W.heap.size := by obtain ⟨m, hm⟩ := k1; exact DataW.trod_lt m _ _ _ hm
  obtain ⟨fit1, rep1⟩ := arg_rep (E := law38_RunoutMoves_E) (X := ctx0 W) (n := 8) (sh := [(.int .i64), (.int .i64)]) (tok_of seat_TTok) lay rfl rfl (by kernel_rfl) (hval 1 25 v1 rfl rfl) h1
  obtain ⟨u1, hu1⟩ : ∃ u, u = flat d1 := ⟨_, rfl⟩
  rw [← hu1] at fit1 rep1
  obtain ⟨x1, u1t, rfl, lox1, hix1, fit1_0⟩ := fit1.int
  obtain ⟨x2, u1t, rfl, lox2, hix2, fit1_1⟩ := fit1_0.int
  obtain rfl := fit1_1.none
  have k2 := h2
  have lt2 : ∀ x ∈ p2, x.block < W.heap.size := by obtain ⟨m, hm⟩ := k2; exact DataW.trod_lt m _ _ _ hm
  obtain ⟨fit2, rep2⟩ := arg_rep (E := law38_RunoutMoves_E) (X := ctx0 W) (n := 8) (sh := [(.int .i64), (.int .i64)]) (tok_of seat_TTok) lay rfl rfl (by kernel_rfl) (hval 2 25 v2 rfl rfl) h2
  obtain ⟨u2, hu2⟩ : ∃ u, u = flat d2 := ⟨_, rfl⟩
  rw [← hu2] at fit2 rep2
  obtain ⟨x3, u2t, rfl, lox3, hix3, fit2_0⟩ := fit2.int
  obtain ⟨x4, u2t, rfl, lox4, hix4, fit2_1⟩ := fit2_0.int
  obtain rfl := fit2_1.none
  have wex0 : x0.length * 32 ≤ 140737488351232 := weight_arg (P := Try.prog) (e := 62) hwt 0 rfl rfl (by kernel_rfl) (by kernel_rfl) h0 hu0
  have hrun := specG_true (i := law38_RunoutMoves_I) (outs := law38_RunoutMoves_O) (T := law38_RunoutMoves_T) (args := [argAV (law38_RunoutMoves_E.ty 22).d.isAgg [(.sl [(.int .i64), (.sl [(.int .i64), (.int .i64)])])] [.l x0], argAV (law38_RunoutMoves_E.ty 25).d.isAgg [(.int .i64), (.int .i64)] [.i x1, .i x2], argAV (law38_RunoutMoves_E.ty 25).d.isAgg [(.int .i64), (.int .i64)] [.i x3, .i x4]]) (ps := [.r x0, .i x1, .i x2, .i x3, .i x4]) rfl (by kernel_rfl)
    (plain x0 x1 x2 x3 x4 lex0 wex0 lox1 hix1 lox2 hix2 lox3 hix3 lox4 hix4)
  refine (law_calls law38_RunoutMoves_spec (globs hL) (.cons rep0 (.cons rep1 (.cons rep2 (.nil)))) hrun).mono fun e W' ⟨he, bel⟩ => ?_
  subst he
  exact ⟨_, rfl, _, _, _, [], _, [], hW', trodAll_mk1 (shut_bool Try.underlying4 _), trodAll_cons_mk (Below.trod laidOut (by kernel_rfl) (of_decide_eq_true (by kernel_rfl)) k0 bel lt0) (trodAll_cons_mk (Below.trod laidOut (by kernel_rfl) (of_decide_eq_true (by kernel_rfl)) k1 bel lt1) (trodAll_cons_mk (Below.trod laidOut (by kernel_rfl) (of_decide_eq_true (by kernel_rfl)) k2 bel lt2) (trodAll_mk0))), rfl, bel.frame _, fun h => by cases h⟩
noncomputable def laidWorld (os : Os) : World :=
  World.holding Try.prog os ⟨#[], #[], []⟩
set_option maxRecDepth 100000 in
theorem laid_met (os : Os) : laidMet Try.prog Rows.runoutMovesRow.laid ((laidWorld os).forCall (fun _ _ => 0) ⟨#[], #[.slice none 0 0, .agg #[.int .i64 0, .int .i64 0], .agg #[.int .i64 0, .int .i64 0]], []⟩).memory :=
  laidMet_of_run' 8 (by kernel_rfl) (by kernel_rfl)
theorem reads (os : Os) {H : Type} (enc : TypeId × Value → H) : ∃ places, DataW.whole enc Try.prog ((laidWorld os).forCall (fun _ _ => 0) ⟨#[], #[.slice none 0 0, .agg #[.int .i64 0, .int .i64 0], .agg #[.int .i64 0, .int .i64 0]], []⟩).memory Try.f8.params.toList Rows.runoutMovesSpec.vars false (#[.slice none 0 0, .agg #[.int .i64 0, .int .i64 0], .agg #[.int .i64 0, .int .i64 0]] : Array Value).toList 8 = some ([.nil, .agg [.lit (.int .i64 0), .lit (.int .i64 0)], .agg [.lit (.int .i64 0), .lit (.int .i64 0)]], [], places) :=
  ⟨[], by kernel_rfl⟩
set_option maxRecDepth 100000 in
theorem lifted (os : Os) (started : os.Started) (H : Type) (enc : TypeId × Value → H) (F : Stop.Interp) :
    ReturnsInHanded {} Try.checked os 8 .any ((OpenSpec.ofChange Rows.runoutMovesSpec).preRow enc Try.prog Try.f8 Rows.runoutMovesRow.domain false Rows.runoutMovesRow.laid) (((OpenSpec.ofChange Rows.runoutMovesSpec).at F).post enc Try.prog Try.f8 false true false false) := by
  obtain ⟨places, hx⟩ := reads os enc
  refine returnsInHanded_of_row (C := Try.checked) (s := OpenSpec.ofChange Rows.runoutMovesSpec) own started (by kernel_rfl) Try.func8
    (witness_row_at (enc := enc) (C := Try.checked) false (laidWorld os) #[.slice none 0 0, .agg #[.int .i64 0, .int .i64 0], .agg #[.int .i64 0, .int .i64 0]] rfl (by kernel_rfl) (by kernel_rfl) (by kernel_rfl)
      (OpenSpec.preRow_of_cond 8 hx (by kernel_rfl) (fun k hk => by cases hk) (by kernel_rfl) (laid_met os))) ?_
  intro W base args ds gs before hval hW _ _ hwt hL _ _
  exact contract H enc W base args ds gs before hval hwt hW hL
theorem said : Rows.RunoutMovesSaid :=
  OpenClaim.holds_of_cond 8 Try.f8 rfl rfl rfl rfl rfl rfl rfl ⟨rfl, rfl, rfl, rfl, rfl⟩ rfl rfl rfl rfl rfl (by kernel_rfl) Try.func8 (by kernel_rfl)
    (of_decide_eq_true (by kernel_rfl)) (by unfold Func.isWrapper; first | (rw [if_pos (by decide +kernel)]; kernel_rfl) | (rw [if_neg (by decide +kernel)]; exact ⟨rfl, rfl⟩))
    (fun os started H enc _ F => by rw [OpenClaim.pre_eq_preRow]; exact lifted os started H enc F)
end Go.Proofs.Ytjebekbdjlooiaa.runoutMoves
