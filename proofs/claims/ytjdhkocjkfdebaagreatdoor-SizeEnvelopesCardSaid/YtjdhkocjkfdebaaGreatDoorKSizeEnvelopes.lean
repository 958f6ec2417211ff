/- The law SizeEnvelopes: its contract, and that it enters and returns. -/
import Derived.Test.YtjdhkocjkfdebaaGreatDoorG7
import Derived.Test.YtjdhkocjkfdebaaGreatDoorW
import Derived.WalkKit
import Derived.ProofKit
import Derived.OpenShut
import Derived.Deep.DeepHandedRow
import Derived.Lib.LaidTab
namespace Go.Proofs.YtjdhkocjkfdebaaGreatDoor.sizeEnvelopes
open Go.ChangeShapes Go.WideShapes Go.ChangeAt Go.RowKit Go.Eng
theorem plain (x0 : Int) (x1 : R) (x2 : R) (x3 : Bool) (x4 : Int) (x5 : Int) (lox0 : IntKind.min .i64 ≤ x0) (hix0 : x0 ≤ IntKind.max .i64) (lex1 : UFit (.sl [(.int .i64), (.int .i64), (.int .i64)]) (.l x1)) (lex2 : UFit (.sl [(.int .i64), (.int .i64), (.int .i64)]) (.l x2)) (lox4 : IntKind.min .i64 ≤ x4) (hix4 : x4 ≤ IntKind.max .i64) (lox5 : IntKind.min .i64 ≤ x5) (hix5 : x5 ≤ IntKind.max .i64) : (jO [.i x0, .r x1, .r x2, .b x3, .i x4, .i x5]).run = some (0, [.b true]) := qp2 x0 x1 x2 x3 x4 x5 lox0 hix0 lex1 lex2 lox4 hix4 lox5 hix5
theorem own : ownKnob Tryz.prog.godebug = none := by kernel_rfl
theorem laidOut : laidOutB Tryz.prog = true := by kernel_rfl
theorem lay : q1l.all (fun x => qu3 x.2) = true := by kernel_rfl
theorem globs {W : World} (h : laidMetH Tryz.prog Rows.sizeEnvelopesRow.laid W) : q30 qa (qop W) := by
  have h' : laidMet Tryz.prog Rows.sizeEnvelopesRow.laid W := h
  exact alc ⟨⟨_, _, _, _, rfl⟩, qtl (E := zb) (um q8) lay (name := "internal/strconv.uint64pow10") (d := Rows.laid_internal_strconv_uint64pow10) (t := 456) (n := 8) (by kernel_rfl) (by kernel_rfl) (by kernel_rfl) h' (by simp [Rows.sizeEnvelopesRow])⟩ (aln)
set_option maxRecDepth 100000 in
theorem contract (H : Type) (enc : TypeId × Value → H) (W : World) (base : Nat) (args : Array Value) (ds gs : List (DataW H)) (before : List MemPlace)
    (hval : ∀ (j : Nat) t v, Tryz.f8.params[j]? = some t → args[j]? = some v → Value.okWide Tryz.prog W .any base t v)
    (hwt : (DataW.weightsEach Tryz.prog (Tryz.f8.params.toList ++ (OpenSpec.ofChange Rows.sizeEnvelopesSpec).bare.plain.varTypes Tryz.prog) (ds ++ gs)).all (· ≤ reachBytes) = true)
    (hW : DataW.Whole enc Tryz.prog Tryz.f8.params.toList Rows.sizeEnvelopesSpec.vars false W args.toList ds gs before) (hL : laidMetH Tryz.prog Rows.sizeEnvelopesRow.laid W) :
    Calls Tryz.prog 8 args W fun e W' => ∃ v, e = .returned v ∧ Rows.sizeEnvelopesSpec.post enc Tryz.prog Tryz.f8 false true false false W args v W' := by
  have hW' := hW
  obtain ⟨p, q, hA0, hV, rfl, hfz, hnd⟩ := hW
  have hA : DataW.TrodAll enc Tryz.prog W 0 (fun _ => true) true Tryz.f8.params.toList args.toList ds p := hA0
  rw [Tryz.params8] at hA hval
  obtain ⟨v0, vs0, d0, ds0, p0, q0, hargs, rfl, rfl, h0, r0⟩ := trodAll_cons hA
  obtain ⟨v1, vs1, d1, ds1, p1, q1, rfl, rfl, rfl, h1, r1⟩ := trodAll_cons r0
  obtain ⟨v2, vs2, d2, ds2, p2, q2, rfl, rfl, rfl, h2, r2⟩ := trodAll_cons r1
  obtain ⟨rfl, rfl, rfl⟩ := trodAll_nil r2
  obtain rfl : args = #[v0, v1, v2] := by cases args; simp_all
  obtain ⟨rfl, rfl⟩ := trodVars_none hV
  have k0 := h0
  have lt0 : ∀ x ∈ p0, x.block < W.heap.size := by obtain ⟨m, hm⟩ := k0; exact DataW.trod_lt m _ _ _ hm
  obtain ⟨fit0, rep0⟩ := q8O (E := zb) (X := qop W) (n := 8) (sh := [(.int .i64), (.sl [(.int .i64), (.int .i64), (.int .i64)]), (.sl [(.int .i64), (.int .i64), (.int .i64)])]) (um q8) lay rfl rfl (by kernel_rfl) (hval 0 46 v0 rfl rfl) h0
  obtain ⟨u0, hu0⟩ : ∃ u, u = qgN d0 := ⟨_, rfl⟩
  rw [← hu0] at fit0 rep0
  obtain ⟨x0, u0t, rfl, lox0, hix0, fit0_0⟩ := fit0.int
  obtain ⟨x1, u0t, rfl, lex1, fit0_1⟩ := fit0_0.sl
  obtain ⟨x2, u0t, rfl, lex2, fit0_2⟩ := fit0_1.sl
  obtain rfl := fit0_2.none
  have k1 := h1
  have lt1 : ∀ x ∈ p1, x.block < W.heap.size := by obtain ⟨m, hm⟩ := k1; exact DataW.trod_lt m _ _ _ hm
  obtain ⟨fit1, rep1⟩ := q8O (E := zb) (X := qop W) (n := 8) (sh := [.bool]) (um q8) lay rfl rfl (by kernel_rfl) (hval 1 4 v1 rfl rfl) h1
  obtain ⟨u1, hu1⟩ : ∃ u, u = qgN d1 := ⟨_, rfl⟩
  rw [← hu1] at fit1 rep1
  obtain ⟨x3, u1t, rfl, fit1_0⟩ := fit1.bool
  obtain rfl := fit1_0.none
  have k2 := h2
  have lt2 : ∀ x ∈ p2, x.block < W.heap.size := by obtain ⟨m, hm⟩ := k2; exact DataW.trod_lt m _ _ _ hm
  obtain ⟨fit2, rep2⟩ := q8O (E := zb) (X := qop W) (n := 8) (sh := [(.int .i64), (.int .i64)]) (um q8) lay rfl rfl (by kernel_rfl) (hval 2 24 v2 rfl rfl) h2
  obtain ⟨u2, hu2⟩ : ∃ u, u = qgN d2 := ⟨_, rfl⟩
  rw [← hu2] at fit2 rep2
  obtain ⟨x4, u2t, rfl, lox4, hix4, fit2_0⟩ := fit2.int
  obtain ⟨x5, u2t, rfl, lox5, hix5, fit2_1⟩ := fit2_0.int
  obtain rfl := fit2_1.none
  have hrun := qfH (i := q3t) (outs := q3d) (T := jO) (args := [qiD (zb.ty 46).d.isAgg [(.int .i64), (.sl [(.int .i64), (.int .i64), (.int .i64)]), (.sl [(.int .i64), (.int .i64), (.int .i64)])] [.i x0, .l x1, .l x2], qiD (zb.ty 4).d.isAgg [.bool] [.b x3], qiD (zb.ty 24).d.isAgg [(.int .i64), (.int .i64)] [.i x4, .i x5]]) (ps := [.i x0, .r x1, .r x2, .b x3, .i x4, .i x5]) rfl (by kernel_rfl)
    (plain x0 x1 x2 x3 x4 x5 lox0 hix0 lex1 lex2 lox4 hix4 lox5 hix5)
  refine (qkv qg3 (globs hL) (.cons rep0 (.cons rep1 (.cons rep2 (.nil)))) hrun).mono fun e W' ⟨he, bel⟩ => ?_
  subst he
  exact ⟨_, rfl, _, _, _, [], _, [], hW', trodAll_mk1 (shut_bool Tryz.underlying4 _), trodAll_cons_mk (Below.trod laidOut (by kernel_rfl) (of_decide_eq_true (by kernel_rfl)) k0 bel lt0) (trodAll_cons_mk (Below.trod laidOut (by kernel_rfl) (of_decide_eq_true (by kernel_rfl)) k1 bel lt1) (trodAll_cons_mk (Below.trod laidOut (by kernel_rfl) (of_decide_eq_true (by kernel_rfl)) k2 bel lt2) (trodAll_mk0))), rfl, bel.frame _, fun h => by cases h⟩
set_option maxRecDepth 100000 in
theorem laid_met (os : Os) : laidMet Tryz.prog Rows.sizeEnvelopesRow.laid ((laidWorld os).forCall (fun _ _ => 0) ⟨#[], #[.agg #[.int .i64 0, .slice none 0 0, .slice none 0 0], .bool false, .agg #[.int .i64 0, .int .i64 0]], []⟩).memory :=
  world_met os _
theorem reads (os : Os) {H : Type} (enc : TypeId × Value → H) : ∃ places, DataW.whole enc Tryz.prog ((laidWorld os).forCall (fun _ _ => 0) ⟨#[], #[.agg #[.int .i64 0, .slice none 0 0, .slice none 0 0], .bool false, .agg #[.int .i64 0, .int .i64 0]], []⟩).memory Tryz.f8.params.toList Rows.sizeEnvelopesSpec.vars false (#[.agg #[.int .i64 0, .slice none 0 0, .slice none 0 0], .bool false, .agg #[.int .i64 0, .int .i64 0]] : Array Value).toList 8 = some ([.agg [.lit (.int .i64 0), .nil, .nil], .lit (.bool false), .agg [.lit (.int .i64 0), .lit (.int .i64 0)]], [], places) :=
  ⟨[], by kernel_rfl⟩
set_option maxRecDepth 100000 in
theorem lifted (os : Os) (started : os.Started) (H : Type) (enc : TypeId × Value → H) (F : Stop.Interp) :
    ReturnsInHanded {} Tryz.checked os 8 .any ((OpenSpec.ofChange Rows.sizeEnvelopesSpec).preRow enc Tryz.prog Tryz.f8 Rows.sizeEnvelopesRow.domain false Rows.sizeEnvelopesRow.laid) (((OpenSpec.ofChange Rows.sizeEnvelopesSpec).at F).post enc Tryz.prog Tryz.f8 false true false false) := by
  obtain ⟨places, hx⟩ := reads os enc
  refine returnsInHanded_of_row (C := Tryz.checked) (s := OpenSpec.ofChange Rows.sizeEnvelopesSpec) own started (by kernel_rfl) Tryz.func8
    (witness_row_at (enc := enc) (C := Tryz.checked) false (laidWorld os) #[.agg #[.int .i64 0, .slice none 0 0, .slice none 0 0], .bool false, .agg #[.int .i64 0, .int .i64 0]] rfl (by kernel_rfl) (by kernel_rfl) (by kernel_rfl)
      (OpenSpec.preRow_of_cond 8 hx (by kernel_rfl) (fun k hk => by cases hk) (by kernel_rfl) (laid_met os))) ?_
  intro W base args ds gs before hval hW _ _ hwt hL _ _
  exact contract H enc W base args ds gs before hval hwt hW hL
end Go.Proofs.YtjdhkocjkfdebaaGreatDoor.sizeEnvelopes
