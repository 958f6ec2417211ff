/- The law SizeFaces: its contract, and that it enters and returns. -/
import Derived.Test.YtjdhkocjkfdebaaGreatDoorG7
import Derived.Test.YtjdhkocjkfdebaaGreatDoorW
import Derived.WalkKit
import Derived.ProofKit
import Derived.OpenShut
import Derived.Deep.DeepHandedRow
import Derived.Lib.LaidTab
namespace Go.Proofs.YtjdhkocjkfdebaaGreatDoor.sizeFaces
open Go.ChangeShapes Go.WideShapes Go.ChangeAt Go.RowKit Go.Eng
theorem plain (x0 : Int) (x1 : R) (x2 : R) (x3 : Bool) (lox0 : IntKind.min .i64 ≤ x0) (hix0 : x0 ≤ IntKind.max .i64) (lex1 : UFit (.sl [(.int .i64), (.int .i64), (.int .i64)]) (.l x1)) (lex2 : UFit (.sl [(.int .i64), (.int .i64), (.int .i64)]) (.l x2)) : (q0a [.i x0, .r x1, .r x2, .b x3]).run = some (0, [.b true]) := que x0 x1 x2 x3 lox0 hix0 lex1 lex2
theorem own : ownKnob Tryz.prog.godebug = none := by kernel_rfl
theorem laidOut : laidOutB Tryz.prog = true := by kernel_rfl
theorem lay : qdj.all (fun x => qyj x.2) = true := by kernel_rfl
theorem globs {W : World} (h : laidMetH Tryz.prog Rows.sizeFacesRow.laid W) : q3b qc (qtQ W) := by
  have h' : laidMet Tryz.prog Rows.sizeFacesRow.laid W := h
  exact alc ⟨⟨_, _, _, _, rfl⟩, qB1 (E := je) (q3P q9) lay (name := "internal/strconv.uint64pow10") (d := Rows.laid_internal_strconv_uint64pow10) (t := 456) (n := 8) (by kernel_rfl) (by kernel_rfl) (by kernel_rfl) h' (by simp [Rows.sizeFacesRow])⟩ (aln)
set_option maxRecDepth 100000 in
theorem contract (H : Type) (enc : TypeId × Value → H) (W : World) (base : Nat) (args : Array Value) (ds gs : List (DataW H)) (before : List MemPlace)
    (hval : ∀ (j : Nat) t v, Tryz.f4.params[j]? = some t → args[j]? = some v → Value.okWide Tryz.prog W .any base t v)
    (hwt : (DataW.weightsEach Tryz.prog (Tryz.f4.params.toList ++ (OpenSpec.ofChange Rows.sizeFacesSpec).bare.plain.varTypes Tryz.prog) (ds ++ gs)).all (· ≤ reachBytes) = true)
    (hW : DataW.Whole enc Tryz.prog Tryz.f4.params.toList Rows.sizeFacesSpec.vars false W args.toList ds gs before) (hL : laidMetH Tryz.prog Rows.sizeFacesRow.laid W) :
    Calls Tryz.prog 4 args W fun e W' => ∃ v, e = .returned v ∧ Rows.sizeFacesSpec.post enc Tryz.prog Tryz.f4 false true false false W args v W' := by
  have hW' := hW
  obtain ⟨p, q, hA0, hV, rfl, hfz, hnd⟩ := hW
  have hA : DataW.TrodAll enc Tryz.prog W 0 (fun _ => true) true Tryz.f4.params.toList args.toList ds p := hA0
  rw [Tryz.params4] at hA hval
  obtain ⟨v0, vs0, d0, ds0, p0, q0, hargs, rfl, rfl, h0, r0⟩ := trodAll_cons hA
  obtain ⟨v1, vs1, d1, ds1, p1, q1, rfl, rfl, rfl, h1, r1⟩ := trodAll_cons r0
  obtain ⟨rfl, rfl, rfl⟩ := trodAll_nil r1
  obtain rfl : args = #[v0, v1] := by cases args; simp_all
  obtain ⟨rfl, rfl⟩ := trodVars_none hV
  have k0 := h0
  have lt0 : ∀ x ∈ p0, x.block < W.heap.size := by obtain ⟨m, hm⟩ := k0; exact DataW.trod_lt m _ _ _ hm
  obtain ⟨fit0, rep0⟩ := qi1 (E := je) (X := qtQ W) (n := 8) (sh := [(.int .i64), (.sl [(.int .i64), (.int .i64), (.int .i64)]), (.sl [(.int .i64), (.int .i64), (.int .i64)])]) (q3P q9) lay rfl rfl (by kernel_rfl) (hval 0 46 v0 rfl rfl) h0
  obtain ⟨u0, hu0⟩ : ∃ u, u = qlm d0 := ⟨_, rfl⟩
  rw [← hu0] at fit0 rep0
  obtain ⟨x0, u0t, rfl, lox0, hix0, fit0_0⟩ := fit0.int
  obtain ⟨x1, u0t, rfl, lex1, fit0_1⟩ := fit0_0.sl
  obtain ⟨x2, u0t, rfl, lex2, fit0_2⟩ := fit0_1.sl
  obtain rfl := fit0_2.none
  have k1 := h1
  have lt1 : ∀ x ∈ p1, x.block < W.heap.size := by obtain ⟨m, hm⟩ := k1; exact DataW.trod_lt m _ _ _ hm
  obtain ⟨fit1, rep1⟩ := qi1 (E := je) (X := qtQ W) (n := 8) (sh := [.bool]) (q3P q9) lay rfl rfl (by kernel_rfl) (hval 1 4 v1 rfl rfl) h1
  obtain ⟨u1, hu1⟩ : ∃ u, u = qlm d1 := ⟨_, rfl⟩
  rw [← hu1] at fit1 rep1
  obtain ⟨x3, u1t, rfl, fit1_0⟩ := fit1.bool
  obtain rfl := fit1_0.none
  have hrun := qof (i := q79) (outs := q7q) (T := q0a) (args := [qo3 (je.ty 46).d.isAgg [(.int .i64), (.sl [(.int .i64), (.int .i64), (.int .i64)]), (.sl [(.int .i64), (.int .i64), (.int .i64)])] [.i x0, .l x1, .l x2], qo3 (je.ty 4).d.isAgg [.bool] [.b x3]]) (ps := [.i x0, .r x1, .r x2, .b x3]) rfl (by kernel_rfl)
    (plain x0 x1 x2 x3 lox0 hix0 lex1 lex2)
  refine (qs9 qk1 (globs hL) (.cons rep0 (.cons rep1 (.nil))) hrun).mono fun e W' ⟨he, bel⟩ => ?_
  subst he
  exact ⟨_, rfl, _, _, _, [], _, [], hW', trodAll_mk1 (shut_bool Tryz.underlying4 _), trodAll_cons_mk (Below.trod laidOut (by kernel_rfl) (of_decide_eq_true (by kernel_rfl)) k0 bel lt0) (trodAll_cons_mk (Below.trod laidOut (by kernel_rfl) (of_decide_eq_true (by kernel_rfl)) k1 bel lt1) (trodAll_mk0)), rfl, bel.frame _, fun h => by cases h⟩
set_option maxRecDepth 100000 in
theorem laid_met (os : Os) : laidMet Tryz.prog Rows.sizeFacesRow.laid ((laidWorld os).forCall (fun _ _ => 0) ⟨#[], #[.agg #[.int .i64 0, .slice none 0 0, .slice none 0 0], .bool false], []⟩).memory :=
  world_met os _
theorem reads (os : Os) {H : Type} (enc : TypeId × Value → H) : ∃ places, DataW.whole enc Tryz.prog ((laidWorld os).forCall (fun _ _ => 0) ⟨#[], #[.agg #[.int .i64 0, .slice none 0 0, .slice none 0 0], .bool false], []⟩).memory Tryz.f4.params.toList Rows.sizeFacesSpec.vars false (#[.agg #[.int .i64 0, .slice none 0 0, .slice none 0 0], .bool false] : Array Value).toList 8 = some ([.agg [.lit (.int .i64 0), .nil, .nil], .lit (.bool false)], [], places) :=
  ⟨[], by kernel_rfl⟩
set_option maxRecDepth 100000 in
theorem lifted (os : Os) (started : os.Started) (H : Type) (enc : TypeId × Value → H) (F : Stop.Interp) :
    ReturnsInHanded {} Tryz.checked os 4 .any ((OpenSpec.ofChange Rows.sizeFacesSpec).preRow enc Tryz.prog Tryz.f4 Rows.sizeFacesRow.domain false Rows.sizeFacesRow.laid) (((OpenSpec.ofChange Rows.sizeFacesSpec).at F).post enc Tryz.prog Tryz.f4 false true false false) := by
  obtain ⟨places, hx⟩ := reads os enc
  refine returnsInHanded_of_row (C := Tryz.checked) (s := OpenSpec.ofChange Rows.sizeFacesSpec) own started (by kernel_rfl) Tryz.func4
    (witness_row_at (enc := enc) (C := Tryz.checked) false (laidWorld os) #[.agg #[.int .i64 0, .slice none 0 0, .slice none 0 0], .bool false] rfl (by kernel_rfl) (by kernel_rfl) (by kernel_rfl)
      (OpenSpec.preRow_of_cond 8 hx (by kernel_rfl) (fun k hk => by cases hk) (by kernel_rfl) (laid_met os))) ?_
  intro W base args ds gs before hval hW _ _ hwt hL _ _
  exact contract H enc W base args ds gs before hval hwt hW hL
end Go.Proofs.YtjdhkocjkfdebaaGreatDoor.sizeFaces
