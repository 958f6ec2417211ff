/- The law DiscsContain: its contract, and that it enters and returns. -/
import Derived.Test.YtlocjddojobamaaGreatDoorM6
import Derived.Test.YtlocjddojobamaaGreatDoorW
import Derived.WalkKit
import Derived.ProofKit
import Derived.OpenShut
import Derived.Deep.DeepHandedRow
import Derived.Lib.LaidTab
namespace Go.Proofs.YtlocjddojobamaaGreatDoor.discsContain
open Go.ChangeShapes Go.WideShapes Go.ChangeAt Go.RowKit Go.Eng
theorem plain (x0 : List UInt8) (x1 : List UInt8) (x2 : List UInt8) (x3 : List UInt8) (x4 : List UInt8) (lex0 : x0.length ≤ maxLen) (lex1 : x1.length ≤ maxLen) (lex2 : x2.length ≤ maxLen) (lex3 : x3.length ≤ maxLen) (lex4 : x4.length ≤ maxLen) : (uo [.s x0, .s x1, .s x2, .s x3, .s x4]).run = some (0, [.b true]) := qmc x0 x1 x2 x3 x4 lex0 lex1 lex2 lex3 lex4
theorem own : ownKnob Tryz.prog.godebug = none := by kernel_rfl
theorem laidOut : laidOutB Tryz.prog = true := by kernel_rfl
theorem lay : qj.all (fun x => qp8 x.2) = true := by kernel_rfl
theorem globs {W : World} (h : laidMetH Tryz.prog Rows.discsContainRow.laid W) : q7e qa (qqV W) := by
  have h' : laidMet Tryz.prog Rows.discsContainRow.laid W := h
  exact all_cons ⟨⟨_, _, _, _, rfl⟩, qpW (E := vL) (qm qc) lay (name := "internal/strconv.uint64pow10") (d := Rows.laid_internal_strconv_uint64pow10) (t := 320) (n := 8) (by kernel_rfl) (by kernel_rfl) (by kernel_rfl) h' (by simp [Rows.discsContainRow])⟩ (q8)
set_option maxRecDepth 100000 in
theorem contract (H : Type) (enc : TypeId × Value → H) (W : World) (base : Nat) (args : Array Value) (ds gs : List (DataW H)) (before : List MemPlace)
    (hval : ∀ (j : Nat) t v, Tryz.f5.params[j]? = some t → args[j]? = some v → Value.okWide Tryz.prog W .any base t v)
    (hwt : (DataW.weightsEach Tryz.prog (Tryz.f5.params.toList ++ (OpenSpec.ofChange Rows.discsContainSpec).bare.plain.varTypes Tryz.prog) (ds ++ gs)).all (· ≤ reachBytes) = true)
    (hW : DataW.Whole enc Tryz.prog Tryz.f5.params.toList Rows.discsContainSpec.vars false W args.toList ds gs before) (hL : laidMetH Tryz.prog Rows.discsContainRow.laid W) :
    Calls Tryz.prog 5 args W fun e W' => ∃ v, e = .returned v ∧ Rows.discsContainSpec.post enc Tryz.prog Tryz.f5 false true false false W args v W' := by
  have hW' := hW
  obtain ⟨p, q, hA0, hV, rfl, hfz, hnd⟩ := hW
  have hA : DataW.TrodAll enc Tryz.prog W 0 (fun _ => true) true Tryz.f5.params.toList args.toList ds p := hA0
  rw [Tryz.params5] at hA hval
  obtain ⟨v0, vs0, d0, ds0, p0, q0, hargs, rfl, rfl, h0, r0⟩ := trodAll_cons hA
  obtain ⟨v1, vs1, d1, ds1, p1, q1, rfl, rfl, rfl, h1, r1⟩ := trodAll_cons r0
  obtain ⟨rfl, rfl, rfl⟩ := trodAll_nil r1
  obtain rfl : args = #[v0, v1] := by cases args; simp_all
  obtain ⟨rfl, rfl⟩ := trodVars_none hV
  have k0 := h0
  have lt0 : ∀ x ∈ p0, x.block < W.heap.size := by obtain ⟨m, hm⟩ := k0; exact DataW.trod_lt m _ _ _ hm
  obtain ⟨fit0, rep0⟩ := qfy (E := vL) (X := qqV W) (n := 8) (sh := [.str, .str, .str]) (qm qc) lay rfl rfl (by kernel_rfl) (hval 0 26 v0 rfl rfl) h0
  obtain ⟨u0, hu0⟩ : ∃ u, u = qgL d0 := ⟨_, rfl⟩
  rw [← hu0] at fit0 rep0
  obtain ⟨x0, u0t, rfl, lex0, fit0_0⟩ := fit0.str
  obtain ⟨x1, u0t, rfl, lex1, fit0_1⟩ := fit0_0.str
  obtain ⟨x2, u0t, rfl, lex2, fit0_2⟩ := fit0_1.str
  obtain rfl := fit0_2.none
  have k1 := h1
  have lt1 : ∀ x ∈ p1, x.block < W.heap.size := by obtain ⟨m, hm⟩ := k1; exact DataW.trod_lt m _ _ _ hm
  obtain ⟨fit1, rep1⟩ := qfy (E := vL) (X := qqV W) (n := 8) (sh := [.str, .str]) (qm qc) lay rfl rfl (by kernel_rfl) (hval 1 24 v1 rfl rfl) h1
  obtain ⟨u1, hu1⟩ : ∃ u, u = qgL d1 := ⟨_, rfl⟩
  rw [← hu1] at fit1 rep1
  obtain ⟨x3, u1t, rfl, lex3, fit1_0⟩ := fit1.str
  obtain ⟨x4, u1t, rfl, lex4, fit1_1⟩ := fit1_0.str
  obtain rfl := fit1_1.none
  have hrun := qda (i := q3S) (outs := q3Q) (T := uo) (args := [qlF (vL.ty 26).d.isAgg [.str, .str, .str] [.s x0, .s x1, .s x2], qlF (vL.ty 24).d.isAgg [.str, .str] [.s x3, .s x4]]) (ps := [.s x0, .s x1, .s x2, .s x3, .s x4]) rfl (by kernel_rfl)
    (plain x0 x1 x2 x3 x4 lex0 lex1 lex2 lex3 lex4)
  refine (qfj qeb (globs hL) (.cons rep0 (.cons rep1 (.nil))) hrun).mono fun e W' ⟨he, bel⟩ => ?_
  subst he
  exact ⟨_, rfl, _, _, _, [], _, [], hW', trodAll_mk1 (shut_bool Tryz.underlying4 _), trodAll_cons_mk (Below.trod laidOut (by kernel_rfl) (of_decide_eq_true (by kernel_rfl)) k0 bel lt0) (trodAll_cons_mk (Below.trod laidOut (by kernel_rfl) (of_decide_eq_true (by kernel_rfl)) k1 bel lt1) (trodAll_mk0)), rfl, bel.frame _, fun h => by cases h⟩
set_option maxRecDepth 100000 in
theorem laid_met (os : Os) : laidMet Tryz.prog Rows.discsContainRow.laid ((laidWorld os).forCall (fun _ _ => 0) ⟨#[], #[.agg #[.string ⟨#[]⟩, .string ⟨#[]⟩, .string ⟨#[]⟩], .agg #[.string ⟨#[]⟩, .string ⟨#[]⟩]], []⟩).memory :=
  world_met os _
theorem reads (os : Os) {H : Type} (enc : TypeId × Value → H) : ∃ places, DataW.whole enc Tryz.prog ((laidWorld os).forCall (fun _ _ => 0) ⟨#[], #[.agg #[.string ⟨#[]⟩, .string ⟨#[]⟩, .string ⟨#[]⟩], .agg #[.string ⟨#[]⟩, .string ⟨#[]⟩]], []⟩).memory Tryz.f5.params.toList Rows.discsContainSpec.vars false (#[.agg #[.string ⟨#[]⟩, .string ⟨#[]⟩, .string ⟨#[]⟩], .agg #[.string ⟨#[]⟩, .string ⟨#[]⟩]] : Array Value).toList 8 = some ([.agg [.agg [.lit (.string []), .lit (.string [])], .lit (.string [])], .agg [.lit (.string []), .lit (.string [])]], [], places) :=
  ⟨[], by kernel_rfl⟩
set_option maxRecDepth 100000 in
theorem lifted (os : Os) (started : os.Started) (H : Type) (enc : TypeId × Value → H) (F : Stop.Interp) :
    ReturnsInHanded {} Tryz.checked os 5 .any ((OpenSpec.ofChange Rows.discsContainSpec).preRow enc Tryz.prog Tryz.f5 Rows.discsContainRow.domain false Rows.discsContainRow.laid) (((OpenSpec.ofChange Rows.discsContainSpec).at F).post enc Tryz.prog Tryz.f5 false true false false) := by
  obtain ⟨places, hx⟩ := reads os enc
  refine returnsInHanded_of_row (C := Tryz.checked) (s := OpenSpec.ofChange Rows.discsContainSpec) own started (by kernel_rfl) Tryz.func5
    (witness_row_at (enc := enc) (C := Tryz.checked) false (laidWorld os) #[.agg #[.string ⟨#[]⟩, .string ⟨#[]⟩, .string ⟨#[]⟩], .agg #[.string ⟨#[]⟩, .string ⟨#[]⟩]] rfl (by kernel_rfl) (by kernel_rfl) (by kernel_rfl)
      (OpenSpec.preRow_of_cond 8 hx (by kernel_rfl) (fun k hk => by cases hk) (by kernel_rfl) (laid_met os))) ?_
  intro W base args ds gs before hval hW _ _ hwt hL _ _
  exact contract H enc W base args ds gs before hval hwt hW hL
end Go.Proofs.YtlocjddojobamaaGreatDoor.discsContain
