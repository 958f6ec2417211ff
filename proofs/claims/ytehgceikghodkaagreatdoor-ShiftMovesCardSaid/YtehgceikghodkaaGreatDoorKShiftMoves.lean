/- The law ShiftMoves: its contract, and that it enters and returns. -/
import Derived.Test.YtehgceikghodkaaGreatDoorU5
import Derived.Test.YtehgceikghodkaaGreatDoorW
import Derived.WalkKit
import Derived.ProofKit
import Derived.OpenShut
import Derived.Deep.DeepHandedRow
import Derived.Lib.LaidTab
namespace Go.Proofs.YtehgceikghodkaaGreatDoor.shiftMoves
open Go.ChangeShapes Go.WideShapes Go.ChangeAt Go.RowKit Go.Eng
theorem plain (x0 : R) (x1 : R) (x2 : Int) (x3 : Int) (x4 : Int) (x5 : List UInt8) (x6 : List UInt8) (lex0 : UFit (.sl [(.int .i64), (.int .i64), (.int .i64), (.int .i64), (.int .i64), (.int .i64), .bool]) (.l x0)) (lex1 : UFit (.sl [(.int .i64), (.int .i64), (.int .i64)]) (.l x1)) (lox2 : IntKind.min .i64 ≤ x2) (hix2 : x2 ≤ IntKind.max .i64) (lox3 : IntKind.min .i8 ≤ x3) (hix3 : x3 ≤ IntKind.max .i8) (lox4 : IntKind.min .i8 ≤ x4) (hix4 : x4 ≤ IntKind.max .i8) (lex5 : x5.length ≤ maxLen) (lex6 : x6.length ≤ maxLen) : (ur [.r x0, .r x1, .i x2, .i x3, .i x4, .s x5, .s x6]).run = some (0, [.b true]) := qnP x0 x1 x2 x3 x4 x5 x6 lex0 lex1 lox2 hix2 lox3 hix3 lox4 hix4 lex5 lex6
theorem own : ownKnob Tryz.prog.godebug = none := by kernel_rfl
theorem laidOut : laidOutB Tryz.prog = true := by kernel_rfl
theorem lay : qde.all (fun x => qw6 x.2) = true := by kernel_rfl
theorem globs {W : World} (h : laidMetH Tryz.prog Rows.shiftMovesRow.laid W) : qbK qc (qxc W) := by
  have h' : laidMet Tryz.prog Rows.shiftMovesRow.laid W := h
  exact alc ⟨⟨_, _, _, _, rfl⟩, qyA (E := zm) (q9n q9) lay (name := "internal/strconv.uint64pow10") (d := Rows.laid_internal_strconv_uint64pow10) (t := 316) (n := 8) (by kernel_rfl) (by kernel_rfl) (by kernel_rfl) h' (by simp [Rows.shiftMovesRow])⟩ (alc ⟨⟨_, _, _, _, rfl⟩, qyA (E := zm) (q9n q9) lay (name := "metrolab/bonus.signs") (d := Rows.laid_metrolab_bonus_signs) (t := 228) (n := 8) (by kernel_rfl) (by kernel_rfl) (by kernel_rfl) h' (by simp [Rows.shiftMovesRow])⟩ (aln))
set_option maxRecDepth 100000 in
theorem contract (H : Type) (enc : TypeId × Value → H) (W : World) (base : Nat) (args : Array Value) (ds gs : List (DataW H)) (before : List MemPlace)
    (hval : ∀ (j : Nat) t v, Tryz.f10.params[j]? = some t → args[j]? = some v → Value.okWide Tryz.prog W .any base t v)
    (hwt : (DataW.weightsEach Tryz.prog (Tryz.f10.params.toList ++ (OpenSpec.ofChange Rows.shiftMovesSpec).bare.plain.varTypes Tryz.prog) (ds ++ gs)).all (· ≤ reachBytes) = true)
    (hW : DataW.Whole enc Tryz.prog Tryz.f10.params.toList Rows.shiftMovesSpec.vars false W args.toList ds gs before) (hL : laidMetH Tryz.prog Rows.shiftMovesRow.laid W) :
    Calls Tryz.prog 10 args W fun e W' => ∃ v, e = .returned v ∧ Rows.shiftMovesSpec.post enc Tryz.prog Tryz.f10 false true false false W args v W' := by
  have hW' := hW
  obtain ⟨p, q, hA0, hV, rfl, hfz, hnd⟩ := hW
  have hA : DataW.TrodAll enc Tryz.prog W 0 (fun _ => true) true Tryz.f10.params.toList args.toList ds p := hA0
  rw [Tryz.params10] at hA hval
  obtain ⟨v0, vs0, d0, ds0, p0, q0, hargs, rfl, rfl, h0, r0⟩ := trodAll_cons hA
  obtain ⟨v1, vs1, d1, ds1, p1, q1, rfl, rfl, rfl, h1, r1⟩ := trodAll_cons r0
  obtain ⟨v2, vs2, d2, ds2, p2, q2, rfl, rfl, rfl, h2, r2⟩ := trodAll_cons r1
  obtain ⟨rfl, rfl, rfl⟩ := trodAll_nil r2
  obtain rfl : args = #[v0, v1, v2] := by cases args; simp_all
  obtain ⟨rfl, rfl⟩ := trodVars_none hV
  have k0 := h0
  have lt0 : ∀ x ∈ p0, x.block < W.heap.size := by obtain ⟨m, hm⟩ := k0; exact DataW.trod_lt m _ _ _ hm
  obtain ⟨fit0, rep0⟩ := qvH (E := zm) (X := qxc W) (n := 8) (sh := [(.sl [(.int .i64), (.int .i64), (.int .i64), (.int .i64), (.int .i64), (.int .i64), .bool]), (.sl [(.int .i64), (.int .i64), (.int .i64)]), (.int .i64)]) (q9n q9) lay rfl rfl (by kernel_rfl) (hval 0 55 v0 rfl rfl) h0
  obtain ⟨u0, hu0⟩ : ∃ u, u = qm1 d0 := ⟨_, rfl⟩
  rw [← hu0] at fit0 rep0
  obtain ⟨x0, u0t, rfl, lex0, fit0_0⟩ := fit0.sl
  obtain ⟨x1, u0t, rfl, lex1, fit0_1⟩ := fit0_0.sl
  obtain ⟨x2, u0t, rfl, lox2, hix2, fit0_2⟩ := fit0_1.int
  obtain rfl := fit0_2.none
  have k1 := h1
  have lt1 : ∀ x ∈ p1, x.block < W.heap.size := by obtain ⟨m, hm⟩ := k1; exact DataW.trod_lt m _ _ _ hm
  obtain ⟨fit1, rep1⟩ := qvH (E := zm) (X := qxc W) (n := 8) (sh := [(.int .i8), (.int .i8)]) (q9n q9) lay rfl rfl (by kernel_rfl) (hval 1 84 v1 rfl rfl) h1
  obtain ⟨u1, hu1⟩ : ∃ u, u = qm1 d1 := ⟨_, rfl⟩
  rw [← hu1] at fit1 rep1
  obtain ⟨x3, u1t, rfl, lox3, hix3, fit1_0⟩ := fit1.int
  obtain ⟨x4, u1t, rfl, lox4, hix4, fit1_1⟩ := fit1_0.int
  obtain rfl := fit1_1.none
  have k2 := h2
  have lt2 : ∀ x ∈ p2, x.block < W.heap.size := by obtain ⟨m, hm⟩ := k2; exact DataW.trod_lt m _ _ _ hm
  obtain ⟨fit2, rep2⟩ := qvH (E := zm) (X := qxc W) (n := 8) (sh := [.str, .str]) (q9n q9) lay rfl rfl (by kernel_rfl) (hval 2 38 v2 rfl rfl) h2
  obtain ⟨u2, hu2⟩ : ∃ u, u = qm1 d2 := ⟨_, rfl⟩
  rw [← hu2] at fit2 rep2
  obtain ⟨x5, u2t, rfl, lex5, fit2_0⟩ := fit2.str
  obtain ⟨x6, u2t, rfl, lex6, fit2_1⟩ := fit2_0.str
  obtain rfl := fit2_1.none
  have hrun := qxy (i := q5x) (outs := q5j) (T := ur) (args := [qtX (zm.ty 55).d.isAgg [(.sl [(.int .i64), (.int .i64), (.int .i64), (.int .i64), (.int .i64), (.int .i64), .bool]), (.sl [(.int .i64), (.int .i64), (.int .i64)]), (.int .i64)] [.l x0, .l x1, .i x2], qtX (zm.ty 84).d.isAgg [(.int .i8), (.int .i8)] [.i x3, .i x4], qtX (zm.ty 38).d.isAgg [.str, .str] [.s x5, .s x6]]) (ps := [.r x0, .r x1, .i x2, .i x3, .i x4, .s x5, .s x6]) rfl (by kernel_rfl)
    (plain x0 x1 x2 x3 x4 x5 x6 lex0 lex1 lox2 hix2 lox3 hix3 lox4 hix4 lex5 lex6)
  refine (qyR qfw (globs hL) (.cons rep0 (.cons rep1 (.cons rep2 (.nil)))) hrun).mono fun e W' ⟨he, bel⟩ => ?_
  subst he
  exact ⟨_, rfl, _, _, _, [], _, [], hW', trodAll_mk1 (shut_bool Tryz.underlying4 _), trodAll_cons_mk (Below.trod laidOut (by kernel_rfl) (of_decide_eq_true (by kernel_rfl)) k0 bel lt0) (trodAll_cons_mk (Below.trod laidOut (by kernel_rfl) (of_decide_eq_true (by kernel_rfl)) k1 bel lt1) (trodAll_cons_mk (Below.trod laidOut (by kernel_rfl) (of_decide_eq_true (by kernel_rfl)) k2 bel lt2) (trodAll_mk0))), rfl, bel.frame _, fun h => by cases h⟩
set_option maxRecDepth 100000 in
theorem laid_met (os : Os) : laidMet Tryz.prog Rows.shiftMovesRow.laid ((laidWorld os).forCall (fun _ _ => 0) ⟨#[], #[.agg #[.slice none 0 0, .slice none 0 0, .int .i64 0], .agg #[.int .i8 0, .int .i8 0], .agg #[.string ⟨#[]⟩, .string ⟨#[]⟩]], []⟩).memory :=
  world_met os _
theorem reads (os : Os) {H : Type} (enc : TypeId × Value → H) : ∃ places, DataW.whole enc Tryz.prog ((laidWorld os).forCall (fun _ _ => 0) ⟨#[], #[.agg #[.slice none 0 0, .slice none 0 0, .int .i64 0], .agg #[.int .i8 0, .int .i8 0], .agg #[.string ⟨#[]⟩, .string ⟨#[]⟩]], []⟩).memory Tryz.f10.params.toList Rows.shiftMovesSpec.vars false (#[.agg #[.slice none 0 0, .slice none 0 0, .int .i64 0], .agg #[.int .i8 0, .int .i8 0], .agg #[.string ⟨#[]⟩, .string ⟨#[]⟩]] : Array Value).toList 8 = some ([.agg [.nil, .nil, .lit (.int .i64 0)], .agg [.lit (.int .i8 0), .lit (.int .i8 0)], .agg [.lit (.string []), .lit (.string [])]], [], places) :=
  ⟨[], by kernel_rfl⟩
set_option maxRecDepth 100000 in
theorem lifted (os : Os) (started : os.Started) (H : Type) (enc : TypeId × Value → H) (F : Stop.Interp) :
    ReturnsInHanded {} Tryz.checked os 10 .any ((OpenSpec.ofChange Rows.shiftMovesSpec).preRow enc Tryz.prog Tryz.f10 Rows.shiftMovesRow.domain false Rows.shiftMovesRow.laid) (((OpenSpec.ofChange Rows.shiftMovesSpec).at F).post enc Tryz.prog Tryz.f10 false true false false) := by
  obtain ⟨places, hx⟩ := reads os enc
  refine returnsInHanded_of_row (C := Tryz.checked) (s := OpenSpec.ofChange Rows.shiftMovesSpec) own started (by kernel_rfl) Tryz.func10
    (witness_row_at (enc := enc) (C := Tryz.checked) false (laidWorld os) #[.agg #[.slice none 0 0, .slice none 0 0, .int .i64 0], .agg #[.int .i8 0, .int .i8 0], .agg #[.string ⟨#[]⟩, .string ⟨#[]⟩]] rfl (by kernel_rfl) (by kernel_rfl) (by kernel_rfl)
      (OpenSpec.preRow_of_cond 8 hx (by kernel_rfl) (fun k hk => by cases hk) (by kernel_rfl) (laid_met os))) ?_
  intro W base args ds gs before hval hW _ _ hwt hL _ _
  exact contract H enc W base args ds gs before hval hwt hW hL
end Go.Proofs.YtehgceikghodkaaGreatDoor.shiftMoves
