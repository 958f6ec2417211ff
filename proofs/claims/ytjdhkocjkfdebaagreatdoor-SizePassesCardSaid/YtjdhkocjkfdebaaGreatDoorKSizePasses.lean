/- The law SizePasses: its contract, and that it enters and returns. -/
import Derived.Test.YtjdhkocjkfdebaaGreatDoorG7
import Derived.Test.YtjdhkocjkfdebaaGreatDoorW
import Derived.WalkKit
import Derived.ProofKit
import Derived.OpenShut
import Derived.Deep.DeepHandedRow
import Derived.Lib.LaidTab
namespace Go.Proofs.YtjdhkocjkfdebaaGreatDoor.sizePasses
open Go.ChangeShapes Go.WideShapes Go.ChangeAt Go.RowKit Go.Eng
theorem plain (x0 : Int) (x1 : R) (x2 : R) (x3 : Int) (x4 : R) (x5 : R) (lox0 : IntKind.min .i64 ≤ x0) (hix0 : x0 ≤ IntKind.max .i64) (lex1 : UFit (.sl [(.int .i64), (.int .i64), (.int .i64)]) (.l x1)) (lex2 : UFit (.sl [(.int .i64), (.int .i64), (.int .i64)]) (.l x2)) (lox3 : IntKind.min .i64 ≤ x3) (hix3 : x3 ≤ IntKind.max .i64) (lex4 : UFit (.sl [(.int .i64), (.int .i64), (.int .i64)]) (.l x4)) (lex5 : UFit (.sl [(.int .i64), (.int .i64), (.int .i64)]) (.l x5)) : (kI [.i x0, .r x1, .r x2, .i x3, .r x4, .r x5]).run = some (0, [.b true]) := quE x0 x1 x2 x3 x4 x5 lox0 hix0 lex1 lex2 lox3 hix3 lex4 lex5
theorem own : ownKnob Tryz.prog.godebug = none := by kernel_rfl
theorem laidOut : laidOutB Tryz.prog = true := by kernel_rfl
theorem lay : q1l.all (fun x => qu3 x.2) = true := by kernel_rfl
theorem globs {W : World} (h : laidMetH Tryz.prog Rows.sizePassesRow.laid W) : q30 qa (qop W) := by
  have h' : laidMet Tryz.prog Rows.sizePassesRow.laid W := h
  exact alc ⟨⟨_, _, _, _, rfl⟩, qtl (E := vU) (um q8) lay (name := "internal/strconv.uint64pow10") (d := Rows.laid_internal_strconv_uint64pow10) (t := 456) (n := 8) (by kernel_rfl) (by kernel_rfl) (by kernel_rfl) h' (by simp [Rows.sizePassesRow])⟩ (aln)
set_option maxRecDepth 100000 in
theorem contract (H : Type) (enc : TypeId × Value → H) (W : World) (base : Nat) (args : Array Value) (ds gs : List (DataW H)) (before : List MemPlace)
    (hval : ∀ (j : Nat) t v, Tryz.f10.params[j]? = some t → args[j]? = some v → Value.okWide Tryz.prog W .any base t v)
    (hwt : (DataW.weightsEach Tryz.prog (Tryz.f10.params.toList ++ (OpenSpec.ofChange Rows.sizePassesSpec).bare.plain.varTypes Tryz.prog) (ds ++ gs)).all (· ≤ reachBytes) = true)
    (hW : DataW.Whole enc Tryz.prog Tryz.f10.params.toList Rows.sizePassesSpec.vars false W args.toList ds gs before) (hL : laidMetH Tryz.prog Rows.sizePassesRow.laid W) :
    Calls Tryz.prog 10 args W fun e W' => ∃ v, e = .returned v ∧ Rows.sizePassesSpec.post enc Tryz.prog Tryz.f10 false true false false W args v W' := by
  have hW' := hW
  obtain ⟨p, q, hA0, hV, rfl, hfz, hnd⟩ := hW
  have hA : DataW.TrodAll enc Tryz.prog W 0 (fun _ => true) true Tryz.f10.params.toList args.toList ds p := hA0
  rw [Tryz.params10] at hA hval
  obtain ⟨v0, vs0, d0, ds0, p0, q0, hargs, rfl, rfl, h0, r0⟩ := trodAll_cons hA
  obtain ⟨v1, vs1, d1, ds1, p1, q1, rfl, rfl, rfl, h1, r1⟩ := trodAll_cons r0
  obtain ⟨rfl, rfl, rfl⟩ := trodAll_nil r1
  obtain rfl : args = #[v0, v1] := by cases args; simp_all
  obtain ⟨rfl, rfl⟩ := trodVars_none hV
  have k0 := h0
  have lt0 : ∀ x ∈ p0, x.block < W.heap.size := by obtain ⟨m, hm⟩ := k0; exact DataW.trod_lt m _ _ _ hm
  obtain ⟨fit0, rep0⟩ := q8O (E := vU) (X := qop W) (n := 8) (sh := [(.int .i64), (.sl [(.int .i64), (.int .i64), (.int .i64)]), (.sl [(.int .i64), (.int .i64), (.int .i64)])]) (um q8) lay rfl rfl (by kernel_rfl) (hval 0 46 v0 rfl rfl) h0
  obtain ⟨u0, hu0⟩ : ∃ u, u = qgN d0 := ⟨_, rfl⟩
  rw [← hu0] at fit0 rep0
  obtain ⟨x0, u0t, rfl, lox0, hix0, fit0_0⟩ := fit0.int
  obtain ⟨x1, u0t, rfl, lex1, fit0_1⟩ := fit0_0.sl
  obtain ⟨x2, u0t, rfl, lex2, fit0_2⟩ := fit0_1.sl
  obtain rfl := fit0_2.none
  have k1 := h1
  have lt1 : ∀ x ∈ p1, x.block < W.heap.size := by obtain ⟨m, hm⟩ := k1; exact DataW.trod_lt m _ _ _ hm
  obtain ⟨fit1, rep1⟩ := q8O (E := vU) (X := qop W) (n := 8) (sh := [(.int .i64), (.sl [(.int .i64), (.int .i64), (.int .i64)]), (.sl [(.int .i64), (.int .i64), (.int .i64)])]) (um q8) lay rfl rfl (by kernel_rfl) (hval 1 46 v1 rfl rfl) h1
  obtain ⟨u1, hu1⟩ : ∃ u, u = qgN d1 := ⟨_, rfl⟩
  rw [← hu1] at fit1 rep1
  obtain ⟨x3, u1t, rfl, lox3, hix3, fit1_0⟩ := fit1.int
  obtain ⟨x4, u1t, rfl, lex4, fit1_1⟩ := fit1_0.sl
  obtain ⟨x5, u1t, rfl, lex5, fit1_2⟩ := fit1_1.sl
  obtain rfl := fit1_2.none
  have hrun := qfH (i := q7v) (outs := q7A) (T := kI) (args := [qiD (vU.ty 46).d.isAgg [(.int .i64), (.sl [(.int .i64), (.int .i64), (.int .i64)]), (.sl [(.int .i64), (.int .i64), (.int .i64)])] [.i x0, .l x1, .l x2], qiD (vU.ty 46).d.isAgg [(.int .i64), (.sl [(.int .i64), (.int .i64), (.int .i64)]), (.sl [(.int .i64), (.int .i64), (.int .i64)])] [.i x3, .l x4, .l x5]]) (ps := [.i x0, .r x1, .r x2, .i x3, .r x4, .r x5]) rfl (by kernel_rfl)
    (plain x0 x1 x2 x3 x4 x5 lox0 hix0 lex1 lex2 lox3 hix3 lex4 lex5)
  refine (qkv qjp (globs hL) (.cons rep0 (.cons rep1 (.nil))) hrun).mono fun e W' ⟨he, bel⟩ => ?_
  subst he
  exact ⟨_, rfl, _, _, _, [], _, [], hW', trodAll_mk1 (shut_bool Tryz.underlying4 _), trodAll_cons_mk (Below.trod laidOut (by kernel_rfl) (of_decide_eq_true (by kernel_rfl)) k0 bel lt0) (trodAll_cons_mk (Below.trod laidOut (by kernel_rfl) (of_decide_eq_true (by kernel_rfl)) k1 bel lt1) (trodAll_mk0)), rfl, bel.frame _, fun h => by cases h⟩
set_option maxRecDepth 100000 in
theorem laid_met (os : Os) : laidMet Tryz.prog Rows.sizePassesRow.laid ((laidWorld os).forCall (fun _ _ => 0) ⟨#[], #[.agg #[.int .i64 0, .slice none 0 0, .slice none 0 0], .agg #[.int .i64 0, .slice none 0 0, .slice none 0 0]], []⟩).memory :=
  world_met os _
theorem reads (os : Os) {H : Type} (enc : TypeId × Value → H) : ∃ places, DataW.whole enc Tryz.prog ((laidWorld os).forCall (fun _ _ => 0) ⟨#[], #[.agg #[.int .i64 0, .slice none 0 0, .slice none 0 0], .agg #[.int .i64 0, .slice none 0 0, .slice none 0 0]], []⟩).memory Tryz.f10.params.toList Rows.sizePassesSpec.vars false (#[.agg #[.int .i64 0, .slice none 0 0, .slice none 0 0], .agg #[.int .i64 0, .slice none 0 0, .slice none 0 0]] : Array Value).toList 8 = some ([.agg [.lit (.int .i64 0), .nil, .nil], .agg [.lit (.int .i64 0), .nil, .nil]], [], places) :=
  ⟨[], by kernel_rfl⟩
set_option maxRecDepth 100000 in
theorem lifted (os : Os) (started : os.Started) (H : Type) (enc : TypeId × Value → H) (F : Stop.Interp) :
    ReturnsInHanded {} Tryz.checked os 10 .any ((OpenSpec.ofChange Rows.sizePassesSpec).preRow enc Tryz.prog Tryz.f10 Rows.sizePassesRow.domain false Rows.sizePassesRow.laid) (((OpenSpec.ofChange Rows.sizePassesSpec).at F).post enc Tryz.prog Tryz.f10 false true false false) := by
  obtain ⟨places, hx⟩ := reads os enc
  refine returnsInHanded_of_row (C := Tryz.checked) (s := OpenSpec.ofChange Rows.sizePassesSpec) own started (by kernel_rfl) Tryz.func10
    (witness_row_at (enc := enc) (C := Tryz.checked) false (laidWorld os) #[.agg #[.int .i64 0, .slice none 0 0, .slice none 0 0], .agg #[.int .i64 0, .slice none 0 0, .slice none 0 0]] rfl (by kernel_rfl) (by kernel_rfl) (by kernel_rfl)
      (OpenSpec.preRow_of_cond 8 hx (by kernel_rfl) (fun k hk => by cases hk) (by kernel_rfl) (laid_met os))) ?_
  intro W base args ds gs before hval hW _ _ hwt hL _ _
  exact contract H enc W base args ds gs before hval hwt hW hL
end Go.Proofs.YtjdhkocjkfdebaaGreatDoor.sizePasses
