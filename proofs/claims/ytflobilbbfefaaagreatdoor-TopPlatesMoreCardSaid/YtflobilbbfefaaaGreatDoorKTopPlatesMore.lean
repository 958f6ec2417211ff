/- The law TopPlatesMore: its contract, and that it enters and returns. -/
import Derived.Test.YtflobilbbfefaaaGreatDoorT5
import Derived.Test.YtflobilbbfefaaaGreatDoorW
import Derived.WalkKit
import Derived.ProofKit
import Derived.OpenShut
import Derived.Deep.DeepHandedRow
import Derived.Lib.LaidTab
namespace Go.Proofs.YtflobilbbfefaaaGreatDoor.topPlatesMore
open Go.ChangeShapes Go.WideShapes Go.ChangeAt Go.RowKit Go.Eng
theorem plain (x0 : R) (x1 : R) (x2 : R) (x3 : R) (x4 : Int) (lex0 : UFit (.sl [(.int .i64), (.int .i64), (.int .i64), (.int .i64), (.int .i64), (.int .i64), .bool]) (.l x0)) (lex1 : UFit (.sl [(.int .i64), (.int .i64), (.int .i64), (.int .i64), (.int .i64), (.int .i64), .bool]) (.l x1)) (lex2 : UFit (.sl [(.int .i64), (.int .i64), (.int .i64)]) (.l x2)) (lex3 : UFit (.sl [(.int .i64), (.int .i64), (.int .i64)]) (.l x3)) (lox4 : IntKind.min .u8 ≤ x4) (hix4 : x4 ≤ IntKind.max .u8) : (jf [.r x0, .r x1, .r x2, .r x3, .i x4]).run = some (0, [.b true]) := qcX x0 x1 x2 x3 x4 lex0 lex1 lex2 lex3 lox4 hix4
theorem own : ownKnob Tryz.prog.godebug = none := by kernel_rfl
theorem laidOut : laidOutB Tryz.prog = true := by kernel_rfl
theorem lay : q6m.all (fun x => qmw x.2) = true := by kernel_rfl
theorem globs {W : World} (h : laidMetH Tryz.prog Rows.topPlatesMoreRow.laid W) : q7y qc (qo0 W) := by
  have h' : laidMet Tryz.prog Rows.topPlatesMoreRow.laid W := h
  exact alc ⟨⟨_, _, _, _, rfl⟩, qqm (E := qP) (q3l q9) lay (name := "internal/strconv.uint64pow10") (d := Rows.laid_internal_strconv_uint64pow10) (t := 279) (n := 8) (by kernel_rfl) (by kernel_rfl) (by kernel_rfl) h' (by simp [Rows.topPlatesMoreRow])⟩ (alc ⟨⟨_, _, _, _, rfl⟩, qqm (E := qP) (q3l q9) lay (name := "metrolab/bonus.signs") (d := Rows.laid_metrolab_bonus_signs) (t := 191) (n := 8) (by kernel_rfl) (by kernel_rfl) (by kernel_rfl) h' (by simp [Rows.topPlatesMoreRow])⟩ (aln))
set_option maxRecDepth 100000 in
theorem contract (H : Type) (enc : TypeId × Value → H) (W : World) (base : Nat) (args : Array Value) (ds gs : List (DataW H)) (before : List MemPlace)
    (hval : ∀ (j : Nat) t v, Tryz.f3.params[j]? = some t → args[j]? = some v → Value.okWide Tryz.prog W .any base t v)
    (hwt : (DataW.weightsEach Tryz.prog (Tryz.f3.params.toList ++ (OpenSpec.ofChange Rows.topPlatesMoreSpec).bare.plain.varTypes Tryz.prog) (ds ++ gs)).all (· ≤ reachBytes) = true)
    (hW : DataW.Whole enc Tryz.prog Tryz.f3.params.toList Rows.topPlatesMoreSpec.vars false W args.toList ds gs before) (hL : laidMetH Tryz.prog Rows.topPlatesMoreRow.laid W) :
    Calls Tryz.prog 3 args W fun e W' => ∃ v, e = .returned v ∧ Rows.topPlatesMoreSpec.post enc Tryz.prog Tryz.f3 false true false false W args v W' := by
  have hW' := hW
  obtain ⟨p, q, hA0, hV, rfl, hfz, hnd⟩ := hW
  have hA : DataW.TrodAll enc Tryz.prog W 0 (fun _ => true) true Tryz.f3.params.toList args.toList ds p := hA0
  rw [Tryz.params3] at hA hval
  obtain ⟨v0, vs0, d0, ds0, p0, q0, hargs, rfl, rfl, h0, r0⟩ := trodAll_cons hA
  obtain ⟨v1, vs1, d1, ds1, p1, q1, rfl, rfl, rfl, h1, r1⟩ := trodAll_cons r0
  obtain ⟨v2, vs2, d2, ds2, p2, q2, rfl, rfl, rfl, h2, r2⟩ := trodAll_cons r1
  obtain ⟨rfl, rfl, rfl⟩ := trodAll_nil r2
  obtain rfl : args = #[v0, v1, v2] := by cases args; simp_all
  obtain ⟨rfl, rfl⟩ := trodVars_none hV
  have k0 := h0
  have lt0 : ∀ x ∈ p0, x.block < W.heap.size := by obtain ⟨m, hm⟩ := k0; exact DataW.trod_lt m _ _ _ hm
  obtain ⟨fit0, rep0⟩ := qnq (E := qP) (X := qo0 W) (n := 8) (sh := [(.sl [(.int .i64), (.int .i64), (.int .i64), (.int .i64), (.int .i64), (.int .i64), .bool]), (.sl [(.int .i64), (.int .i64), (.int .i64), (.int .i64), (.int .i64), (.int .i64), .bool])]) (q3l q9) lay rfl rfl (by kernel_rfl) (hval 0 24 v0 rfl rfl) h0
  obtain ⟨u0, hu0⟩ : ∃ u, u = qeO d0 := ⟨_, rfl⟩
  rw [← hu0] at fit0 rep0
  obtain ⟨x0, u0t, rfl, lex0, fit0_0⟩ := fit0.sl
  obtain ⟨x1, u0t, rfl, lex1, fit0_1⟩ := fit0_0.sl
  obtain rfl := fit0_1.none
  have k1 := h1
  have lt1 : ∀ x ∈ p1, x.block < W.heap.size := by obtain ⟨m, hm⟩ := k1; exact DataW.trod_lt m _ _ _ hm
  obtain ⟨fit1, rep1⟩ := qnq (E := qP) (X := qo0 W) (n := 8) (sh := [(.sl [(.int .i64), (.int .i64), (.int .i64)]), (.sl [(.int .i64), (.int .i64), (.int .i64)])]) (q3l q9) lay rfl rfl (by kernel_rfl) (hval 1 27 v1 rfl rfl) h1
  obtain ⟨u1, hu1⟩ : ∃ u, u = qeO d1 := ⟨_, rfl⟩
  rw [← hu1] at fit1 rep1
  obtain ⟨x2, u1t, rfl, lex2, fit1_0⟩ := fit1.sl
  obtain ⟨x3, u1t, rfl, lex3, fit1_1⟩ := fit1_0.sl
  obtain rfl := fit1_1.none
  have k2 := h2
  have lt2 : ∀ x ∈ p2, x.block < W.heap.size := by obtain ⟨m, hm⟩ := k2; exact DataW.trod_lt m _ _ _ hm
  obtain ⟨fit2, rep2⟩ := qnq (E := qP) (X := qo0 W) (n := 8) (sh := [(.int .u8)]) (q3l q9) lay rfl rfl (by kernel_rfl) (hval 2 5 v2 rfl rfl) h2
  obtain ⟨u2, hu2⟩ : ∃ u, u = qeO d2 := ⟨_, rfl⟩
  rw [← hu2] at fit2 rep2
  obtain ⟨x4, u2t, rfl, lox4, hix4, fit2_0⟩ := fit2.int
  obtain rfl := fit2_0.none
  have hrun := qoO (i := q1b) (outs := q15) (T := jf) (args := [qkO (qP.ty 24).d.isAgg [(.sl [(.int .i64), (.int .i64), (.int .i64), (.int .i64), (.int .i64), (.int .i64), .bool]), (.sl [(.int .i64), (.int .i64), (.int .i64), (.int .i64), (.int .i64), (.int .i64), .bool])] [.l x0, .l x1], qkO (qP.ty 27).d.isAgg [(.sl [(.int .i64), (.int .i64), (.int .i64)]), (.sl [(.int .i64), (.int .i64), (.int .i64)])] [.l x2, .l x3], qkO (qP.ty 5).d.isAgg [(.int .u8)] [.i x4]]) (ps := [.r x0, .r x1, .r x2, .r x3, .i x4]) rfl (by kernel_rfl)
    (plain x0 x1 x2 x3 x4 lex0 lex1 lex2 lex3 lox4 hix4)
  refine (qq8 q8Y (globs hL) (.cons rep0 (.cons rep1 (.cons rep2 (.nil)))) hrun).mono fun e W' ⟨he, bel⟩ => ?_
  subst he
  exact ⟨_, rfl, _, _, _, [], _, [], hW', trodAll_mk1 (shut_bool Tryz.underlying4 _), trodAll_cons_mk (Below.trod laidOut (by kernel_rfl) (of_decide_eq_true (by kernel_rfl)) k0 bel lt0) (trodAll_cons_mk (Below.trod laidOut (by kernel_rfl) (of_decide_eq_true (by kernel_rfl)) k1 bel lt1) (trodAll_cons_mk (Below.trod laidOut (by kernel_rfl) (of_decide_eq_true (by kernel_rfl)) k2 bel lt2) (trodAll_mk0))), rfl, bel.frame _, fun h => by cases h⟩
set_option maxRecDepth 100000 in
theorem laid_met (os : Os) : laidMet Tryz.prog Rows.topPlatesMoreRow.laid ((laidWorld os).forCall (fun _ _ => 0) ⟨#[], #[.agg #[.slice none 0 0, .slice none 0 0], .agg #[.slice none 0 0, .slice none 0 0], .int .u8 0], []⟩).memory :=
  world_met os _
theorem reads (os : Os) {H : Type} (enc : TypeId × Value → H) : ∃ places, DataW.whole enc Tryz.prog ((laidWorld os).forCall (fun _ _ => 0) ⟨#[], #[.agg #[.slice none 0 0, .slice none 0 0], .agg #[.slice none 0 0, .slice none 0 0], .int .u8 0], []⟩).memory Tryz.f3.params.toList Rows.topPlatesMoreSpec.vars false (#[.agg #[.slice none 0 0, .slice none 0 0], .agg #[.slice none 0 0, .slice none 0 0], .int .u8 0] : Array Value).toList 8 = some ([.agg [.nil, .nil], .agg [.nil, .nil], .lit (.int .u8 0)], [], places) :=
  ⟨[], by kernel_rfl⟩
set_option maxRecDepth 100000 in
theorem lifted (os : Os) (started : os.Started) (H : Type) (enc : TypeId × Value → H) (F : Stop.Interp) :
    ReturnsInHanded {} Tryz.checked os 3 .any ((OpenSpec.ofChange Rows.topPlatesMoreSpec).preRow enc Tryz.prog Tryz.f3 Rows.topPlatesMoreRow.domain false Rows.topPlatesMoreRow.laid) (((OpenSpec.ofChange Rows.topPlatesMoreSpec).at F).post enc Tryz.prog Tryz.f3 false true false false) := by
  obtain ⟨places, hx⟩ := reads os enc
  refine returnsInHanded_of_row (C := Tryz.checked) (s := OpenSpec.ofChange Rows.topPlatesMoreSpec) own started (by kernel_rfl) Tryz.func3
    (witness_row_at (enc := enc) (C := Tryz.checked) false (laidWorld os) #[.agg #[.slice none 0 0, .slice none 0 0], .agg #[.slice none 0 0, .slice none 0 0], .int .u8 0] rfl (by kernel_rfl) (by kernel_rfl) (by kernel_rfl)
      (OpenSpec.preRow_of_cond 8 hx (by kernel_rfl) (fun k hk => by cases hk) (by kernel_rfl) (laid_met os))) ?_
  intro W base args ds gs before hval hW _ _ hwt hL _ _
  exact contract H enc W base args ds gs before hval hwt hW hL
end Go.Proofs.YtflobilbbfefaaaGreatDoor.topPlatesMore
