/- The law ShiftProves: its contract, and that it enters and returns. -/
import Derived.Test.YtflobilbbfefaaaGreatDoorP5
import Derived.Test.YtflobilbbfefaaaGreatDoorW
import Derived.WalkKit
import Derived.ProofKit
import Derived.OpenShut
import Derived.Deep.DeepHandedRow
import Derived.Lib.LaidTab
namespace Go.Proofs.YtflobilbbfefaaaGreatDoor.shiftProves
open Go.ChangeShapes Go.WideShapes Go.ChangeAt Go.RowKit Go.Eng
theorem plain (x0 : R) (x1 : R) (x2 : Int) (lex0 : UFit (.sl [(.int .i64), (.int .i64), (.int .i64), (.int .i64), (.int .i64), (.int .i64), .bool]) (.l x0)) (lex1 : UFit (.sl [(.int .i64), (.int .i64), (.int .i64)]) (.l x1)) (lox2 : IntKind.min .i64 ≤ x2) (hix2 : x2 ≤ IntKind.max .i64) : (yt [.r x0, .r x1, .i x2]).run = some (0, [.b true]) := qjZ x0 x1 x2 lex0 lex1 lox2 hix2
theorem own : ownKnob Tryz.prog.godebug = none := by kernel_rfl
theorem laidOut : laidOutB Tryz.prog = true := by kernel_rfl
theorem lay : q8l.all (fun x => qqv x.2) = true := by kernel_rfl
theorem globs {W : World} (h : laidMetH Tryz.prog Rows.shiftProvesRow.laid W) : q95 qc (qra W) := by
  have h' : laidMet Tryz.prog Rows.shiftProvesRow.laid W := h
  exact alc ⟨⟨_, _, _, _, rfl⟩, qoD (E := vw) (q3S q9) lay (name := "internal/strconv.uint64pow10") (d := Rows.laid_internal_strconv_uint64pow10) (t := 279) (n := 8) (by kernel_rfl) (by kernel_rfl) (by kernel_rfl) h' (by simp [Rows.shiftProvesRow])⟩ (alc ⟨⟨_, _, _, _, rfl⟩, qoD (E := vw) (q3S q9) lay (name := "metrolab/bonus.signs") (d := Rows.laid_metrolab_bonus_signs) (t := 191) (n := 8) (by kernel_rfl) (by kernel_rfl) (by kernel_rfl) h' (by simp [Rows.shiftProvesRow])⟩ (aln))
set_option maxRecDepth 100000 in
theorem contract (H : Type) (enc : TypeId × Value → H) (W : World) (base : Nat) (args : Array Value) (ds gs : List (DataW H)) (before : List MemPlace)
    (hval : ∀ (j : Nat) t v, Tryz.f5.params[j]? = some t → args[j]? = some v → Value.okWide Tryz.prog W .any base t v)
    (hwt : (DataW.weightsEach Tryz.prog (Tryz.f5.params.toList ++ (OpenSpec.ofChange Rows.shiftProvesSpec).bare.plain.varTypes Tryz.prog) (ds ++ gs)).all (· ≤ reachBytes) = true)
    (hW : DataW.Whole enc Tryz.prog Tryz.f5.params.toList Rows.shiftProvesSpec.vars false W args.toList ds gs before) (hL : laidMetH Tryz.prog Rows.shiftProvesRow.laid W) :
    Calls Tryz.prog 5 args W fun e W' => ∃ v, e = .returned v ∧ Rows.shiftProvesSpec.post enc Tryz.prog Tryz.f5 false true false false W args v W' := by
  have hW' := hW
  obtain ⟨p, q, hA0, hV, rfl, hfz, hnd⟩ := hW
  have hA : DataW.TrodAll enc Tryz.prog W 0 (fun _ => true) true Tryz.f5.params.toList args.toList ds p := hA0
  rw [Tryz.params5] at hA hval
  obtain ⟨v0, vs0, d0, ds0, p0, q0, hargs, rfl, rfl, h0, r0⟩ := trodAll_cons hA
  obtain ⟨rfl, rfl, rfl⟩ := trodAll_nil r0
  obtain rfl : args = #[v0] := by cases args; simp_all
  obtain ⟨rfl, rfl⟩ := trodVars_none hV
  have k0 := h0
  have lt0 : ∀ x ∈ p0, x.block < W.heap.size := by obtain ⟨m, hm⟩ := k0; exact DataW.trod_lt m _ _ _ hm
  obtain ⟨fit0, rep0⟩ := qoM (E := vw) (X := qra W) (n := 8) (sh := [(.sl [(.int .i64), (.int .i64), (.int .i64), (.int .i64), (.int .i64), (.int .i64), .bool]), (.sl [(.int .i64), (.int .i64), (.int .i64)]), (.int .i64)]) (q3S q9) lay rfl rfl (by kernel_rfl) (hval 0 69 v0 rfl rfl) h0
  obtain ⟨u0, hu0⟩ : ∃ u, u = qiZ d0 := ⟨_, rfl⟩
  rw [← hu0] at fit0 rep0
  obtain ⟨x0, u0t, rfl, lex0, fit0_0⟩ := fit0.sl
  obtain ⟨x1, u0t, rfl, lex1, fit0_1⟩ := fit0_0.sl
  obtain ⟨x2, u0t, rfl, lox2, hix2, fit0_2⟩ := fit0_1.int
  obtain rfl := fit0_2.none
  have hrun := qnp (i := q3t) (outs := q3z) (T := yt) (args := [qp8 (vw.ty 69).d.isAgg [(.sl [(.int .i64), (.int .i64), (.int .i64), (.int .i64), (.int .i64), (.int .i64), .bool]), (.sl [(.int .i64), (.int .i64), (.int .i64)]), (.int .i64)] [.l x0, .l x1, .i x2]]) (ps := [.r x0, .r x1, .i x2]) rfl (by kernel_rfl)
    (plain x0 x1 x2 lex0 lex1 lox2 hix2)
  refine (qpx qd0 (globs hL) (.cons rep0 (.nil)) hrun).mono fun e W' ⟨he, bel⟩ => ?_
  subst he
  exact ⟨_, rfl, _, _, _, [], _, [], hW', trodAll_mk1 (shut_bool Tryz.underlying4 _), trodAll_cons_mk (Below.trod laidOut (by kernel_rfl) (of_decide_eq_true (by kernel_rfl)) k0 bel lt0) (trodAll_mk0), rfl, bel.frame _, fun h => by cases h⟩
set_option maxRecDepth 100000 in
theorem laid_met (os : Os) : laidMet Tryz.prog Rows.shiftProvesRow.laid ((laidWorld os).forCall (fun _ _ => 0) ⟨#[], #[.agg #[.slice none 0 0, .slice none 0 0, .int .i64 0]], []⟩).memory :=
  world_met os _
theorem reads (os : Os) {H : Type} (enc : TypeId × Value → H) : ∃ places, DataW.whole enc Tryz.prog ((laidWorld os).forCall (fun _ _ => 0) ⟨#[], #[.agg #[.slice none 0 0, .slice none 0 0, .int .i64 0]], []⟩).memory Tryz.f5.params.toList Rows.shiftProvesSpec.vars false (#[.agg #[.slice none 0 0, .slice none 0 0, .int .i64 0]] : Array Value).toList 8 = some ([.agg [.nil, .nil, .lit (.int .i64 0)]], [], places) :=
  ⟨[], by kernel_rfl⟩
set_option maxRecDepth 100000 in
theorem lifted (os : Os) (started : os.Started) (H : Type) (enc : TypeId × Value → H) (F : Stop.Interp) :
    ReturnsInHanded {} Tryz.checked os 5 .any ((OpenSpec.ofChange Rows.shiftProvesSpec).preRow enc Tryz.prog Tryz.f5 Rows.shiftProvesRow.domain false Rows.shiftProvesRow.laid) (((OpenSpec.ofChange Rows.shiftProvesSpec).at F).post enc Tryz.prog Tryz.f5 false true false false) := by
  obtain ⟨places, hx⟩ := reads os enc
  refine returnsInHanded_of_row (C := Tryz.checked) (s := OpenSpec.ofChange Rows.shiftProvesSpec) own started (by kernel_rfl) Tryz.func5
    (witness_row_at (enc := enc) (C := Tryz.checked) false (laidWorld os) #[.agg #[.slice none 0 0, .slice none 0 0, .int .i64 0]] rfl (by kernel_rfl) (by kernel_rfl) (by kernel_rfl)
      (OpenSpec.preRow_of_cond 8 hx (by kernel_rfl) (fun k hk => by cases hk) (by kernel_rfl) (laid_met os))) ?_
  intro W base args ds gs before hval hW _ _ hwt hL _ _
  exact contract H enc W base args ds gs before hval hwt hW hL
end Go.Proofs.YtflobilbbfefaaaGreatDoor.shiftProves
