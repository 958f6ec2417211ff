/- The law EncloseSpheres: its contract, and that it enters and returns. -/
import Derived.Test.YtiohngnhjabaiaaGreatDoorU7
import Derived.Test.YtiohngnhjabaiaaGreatDoorW
import Derived.WalkKit
import Derived.ProofKit
import Derived.OpenShut
import Derived.Deep.DeepHandedRow
import Derived.Lib.LaidTab
namespace Go.Proofs.YtiohngnhjabaiaaGreatDoor.encloseSpheres
open Go.ChangeShapes Go.WideShapes Go.ChangeAt Go.RowKit Go.Eng
theorem plain (x0 : R) (lex0 : UFit (.sl [(.int .i64), (.int .i64), (.int .i64)]) (.l x0)) (wex0 : x0.length * 24 ≤ 140737488351232) : (ja [.r x0]).run = some (0, [.b true]) := qlS x0 lex0 wex0
theorem own : ownKnob Tryz.prog.godebug = none := by kernel_rfl
theorem laidOut : laidOutB Tryz.prog = true := by kernel_rfl
theorem lay : qge.all (fun x => qyQ x.2) = true := by kernel_rfl
theorem globs {W : World} (h : laidMetH Tryz.prog Rows.encloseSpheresRow.laid W) : q4q qa (qAa W) := by
  have h' : laidMet Tryz.prog Rows.encloseSpheresRow.laid W := h
  exact alc ⟨⟨_, _, _, _, rfl⟩, qFw (E := jb) (qdL q8) lay (name := "internal/strconv.uint64pow10") (d := Rows.laid_internal_strconv_uint64pow10) (t := 352) (n := 8) (by kernel_rfl) (by kernel_rfl) (by kernel_rfl) h' (by simp [Rows.encloseSpheresRow])⟩ (aln)
set_option maxRecDepth 100000 in
theorem contract (H : Type) (enc : TypeId × Value → H) (W : World) (base : Nat) (args : Array Value) (ds gs : List (DataW H)) (before : List MemPlace)
    (hval : ∀ (j : Nat) t v, Tryz.f8.params[j]? = some t → args[j]? = some v → Value.okWide Tryz.prog W .any base t v)
    (hwt : (DataW.weightsEach Tryz.prog (Tryz.f8.params.toList ++ (OpenSpec.ofChange Rows.encloseSpheresSpec).bare.plain.varTypes Tryz.prog) (ds ++ gs)).all (· ≤ reachBytes) = true)
    (hW : DataW.Whole enc Tryz.prog Tryz.f8.params.toList Rows.encloseSpheresSpec.vars false W args.toList ds gs before) (hL : laidMetH Tryz.prog Rows.encloseSpheresRow.laid W) :
    Calls Tryz.prog 8 args W fun e W' => ∃ v, e = .returned v ∧ Rows.encloseSpheresSpec.post enc Tryz.prog Tryz.f8 false true false false W args v W' := by
  have hW' := hW
  obtain ⟨p, q, hA0, hV, rfl, hfz, hnd⟩ := hW
  have hA : DataW.TrodAll enc Tryz.prog W 0 (fun _ => true) true Tryz.f8.params.toList args.toList ds p := hA0
  rw [Tryz.params8] at hA hval
  obtain ⟨v0, vs0, d0, ds0, p0, q0, hargs, rfl, rfl, h0, r0⟩ := trodAll_cons hA
  obtain ⟨rfl, rfl, rfl⟩ := trodAll_nil r0
  obtain rfl : args = #[v0] := by cases args; simp_all
  obtain ⟨rfl, rfl⟩ := trodVars_none hV
  have k0 := h0
  have lt0 : ∀ x ∈ p0, x.block < W.heap.size := by obtain ⟨m, hm⟩ := k0; exact DataW.trod_lt m _ _ _ hm
  obtain ⟨fit0, rep0⟩ := qGe (E := jb) (X := qAa W) (n := 8) (sh := [(.sl [(.int .i64), (.int .i64), (.int .i64)])]) (qdL q8) lay rfl rfl (by kernel_rfl) (hval 0 26 v0 rfl rfl) h0
  obtain ⟨u0, hu0⟩ : ∃ u, u = qov d0 := ⟨_, rfl⟩
  rw [← hu0] at fit0 rep0
  obtain ⟨x0, u0t, rfl, lex0, fit0_0⟩ := fit0.sl
  obtain rfl := fit0_0.none
  have wex0 : x0.length * 24 ≤ 140737488351232 := qv5 (P := Tryz.prog) (e := 31) hwt 0 rfl rfl (by kernel_rfl) (by kernel_rfl) h0 hu0
  have hrun := quI (i := q1C) (outs := q1Z) (T := ja) (args := [qzF (jb.ty 26).d.isAgg [(.sl [(.int .i64), (.int .i64), (.int .i64)])] [.l x0]]) (ps := [.r x0]) rfl (by kernel_rfl)
    (plain x0 lex0 wex0)
  refine (qyP qdO (globs hL) (.cons rep0 (.nil)) hrun).mono fun e W' ⟨he, bel⟩ => ?_
  subst he
  exact ⟨_, rfl, _, _, _, [], _, [], hW', trodAll_mk1 (shut_bool Tryz.underlying4 _), trodAll_cons_mk (Below.trod laidOut (by kernel_rfl) (of_decide_eq_true (by kernel_rfl)) k0 bel lt0) (trodAll_mk0), rfl, bel.frame _, fun h => by cases h⟩
set_option maxRecDepth 100000 in
theorem laid_met (os : Os) : laidMet Tryz.prog Rows.encloseSpheresRow.laid ((laidWorld os).forCall (fun _ _ => 0) ⟨#[], #[.slice none 0 0], []⟩).memory :=
  world_met os _
theorem reads (os : Os) {H : Type} (enc : TypeId × Value → H) : ∃ places, DataW.whole enc Tryz.prog ((laidWorld os).forCall (fun _ _ => 0) ⟨#[], #[.slice none 0 0], []⟩).memory Tryz.f8.params.toList Rows.encloseSpheresSpec.vars false (#[.slice none 0 0] : Array Value).toList 8 = some ([.nil], [], places) :=
  ⟨[], by kernel_rfl⟩
set_option maxRecDepth 100000 in
theorem lifted (os : Os) (started : os.Started) (H : Type) (enc : TypeId × Value → H) (F : Stop.Interp) :
    ReturnsInHanded {} Tryz.checked os 8 .any ((OpenSpec.ofChange Rows.encloseSpheresSpec).preRow enc Tryz.prog Tryz.f8 Rows.encloseSpheresRow.domain false Rows.encloseSpheresRow.laid) (((OpenSpec.ofChange Rows.encloseSpheresSpec).at F).post enc Tryz.prog Tryz.f8 false true false false) := by
  obtain ⟨places, hx⟩ := reads os enc
  refine returnsInHanded_of_row (C := Tryz.checked) (s := OpenSpec.ofChange Rows.encloseSpheresSpec) own started (by kernel_rfl) Tryz.func8
    (witness_row_at (enc := enc) (C := Tryz.checked) false (laidWorld os) #[.slice none 0 0] rfl (by kernel_rfl) (by kernel_rfl) (by kernel_rfl)
      (OpenSpec.preRow_of_cond 8 hx (by kernel_rfl) (fun k hk => by cases hk) (by kernel_rfl) (laid_met os))) ?_
  intro W base args ds gs before hval hW _ _ hwt hL _ _
  exact contract H enc W base args ds gs before hval hwt hW hL
end Go.Proofs.YtiohngnhjabaiaaGreatDoor.encloseSpheres
