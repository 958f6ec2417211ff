/- The law BonusChecks returns true for every input; its arguments read behind the call as before. No condition. -/
import Derived.Test.YtoemfkkeojmgkaaDoorPBonus6
import Derived.Test.YtoemfkkeojmgkaaDoorEngZ
import Derived.Test.YtoemfkkeojmgkaaDoorCards
import Derived.Test.YtoemfkkeojmgkaaDoorTie
import Derived.WalkKit
import Derived.ProofKit
import Derived.OpenShut
import Derived.Deep.DeepHandedRow
import Derived.Lib.LaidTab
namespace Go.Proofs.YtoemfkkeojmgkaaDoor.bonusChecks
open Go.ChangeShapes Go.WideShapes Go.ChangeAt Go.RowKit Go.Eng
theorem plain (x0 : Int) (x1 : Int) (x2 : Int) (x3 : Int) (x4 : Int) (x5 : Int) (x6 : Bool) (lox0 : IntKind.min .i64 ≤ x0) (hix0 : x0 ≤ IntKind.max .i64) (lox1 : IntKind.min .i64 ≤ x1) (hix1 : x1 ≤ IntKind.max .i64) (lox2 : IntKind.min .i64 ≤ x2) (hix2 : x2 ≤ IntKind.max .i64) (lox3 : IntKind.min .i64 ≤ x3) (hix3 : x3 ≤ IntKind.max .i64) (lox4 : IntKind.min .i64 ≤ x4) (hix4 : x4 ≤ IntKind.max .i64) (lox5 : IntKind.min .i64 ≤ x5) (hix5 : x5 ≤ IntKind.max .i64) : (law44_BonusChecks_T [.i x0, .i x1, .i x2, .i x3, .i x4, .i x5, .b x6]).run = some (0, [.b true]) := plainBonusChecks x0 x1 x2 x3 x4 x5 x6 lox0 hix0 lox1 hix1 lox2 hix2 lox3 hix3 lox4 hix4 lox5 hix5
theorem own : ownKnob Tryd.prog.godebug = none := by kernel_rfl
theorem laidOut : laidOutB Tryd.prog = true := by kernel_rfl
theorem lay : seat_TT.all (fun x => layOk x.2) = true := by kernel_rfl
theorem globs {W : World} (h : laidMetH Tryd.prog Rows.bonusChecksRow.laid W) : GlobOk seat_GL (ctx0 W) := by
  have h' : laidMet Tryd.prog Rows.bonusChecksRow.laid W := h
  exact all_cons ⟨⟨_, _, _, _, rfl⟩, glob_of (E := law44_BonusChecks_E) (tok_of seat_TTok) lay (name := "metrolab/bonus.signs") (d := Rows.laid_metrolab_bonus_signs) (t := 80) (n := 8) (by kernel_rfl) (by kernel_rfl) (by kernel_rfl) h' (by simp [Rows.bonusChecksRow, Rows.laid_metrolab_bonus_signs])⟩ (all_nil)
theorem contract (H : Type) (enc : TypeId × Value → H) (W : World) (base : Nat) (args : Array Value) (ds gs : List (DataW H)) (before : List MemPlace)
    (hval : ∀ (j : Nat) t v, Tryd.f3.params[j]? = some t → args[j]? = some v → Value.okWide Tryd.prog W .any base t v)
    (hW : DataW.Whole enc Tryd.prog Tryd.f3.params.toList Rows.bonusChecksSpec.vars false W args.toList ds gs before) (hL : laidMetH Tryd.prog Rows.bonusChecksRow.laid W) :
    Calls Tryd.prog 3 args W fun e W' => ∃ v, e = .returned v ∧ Rows.bonusChecksSpec.post enc Tryd.prog Tryd.f3 false true false false W args v W' := by
  have hW' := hW
  obtain ⟨p, q, hA0, hV, rfl, hfz, hnd⟩ := hW
  have hA : DataW.TrodAll enc Tryd.prog W 0 (fun _ => true) true Tryd.f3.params.toList args.toList ds p := hA0
  rw [Tryd.params3] at hA hval
  obtain ⟨v0, vs0, d0, ds0, p0, q0, hargs, rfl, rfl, h0, r0⟩ := trodAll_cons hA
  obtain ⟨rfl, rfl, rfl⟩ := trodAll_nil r0
  obtain rfl : args = #[v0] := by cases args; simp_all
  obtain ⟨rfl, rfl⟩ := trodVars_none hV
  have k0 := h0
  have lt0 : ∀ x ∈ p0, x.block < W.heap.size := by obtain ⟨m, hm⟩ := k0; exact DataW.trod_lt m _ _ _ hm
  obtain ⟨fit0, rep0⟩ := arg_rep (E := law44_BonusChecks_E) (X := ctx0 W) (n := 8) (sh := [(.int .i64), (.int .i64), (.int .i64), (.int .i64), (.int .i64), (.int .i64), .bool]) (tok_of seat_TTok) lay rfl rfl (by kernel_rfl) (hval 0 27 v0 rfl rfl) h0
  obtain ⟨u0, hu0⟩ : ∃ u, u = flat d0 := ⟨_, rfl⟩
  rw [← hu0] at fit0 rep0
  obtain ⟨x0, u0t, rfl, lox0, hix0, fit0_0⟩ := fit0.int
  obtain ⟨x1, u0t, rfl, lox1, hix1, fit0_1⟩ := fit0_0.int
  obtain ⟨x2, u0t, rfl, lox2, hix2, fit0_2⟩ := fit0_1.int
  obtain ⟨x3, u0t, rfl, lox3, hix3, fit0_3⟩ := fit0_2.int
  obtain ⟨x4, u0t, rfl, lox4, hix4, fit0_4⟩ := fit0_3.int
  obtain ⟨x5, u0t, rfl, lox5, hix5, fit0_5⟩ := fit0_4.int
  obtain ⟨x6, u0t, rfl, fit0_6⟩ := fit0_5.bool
  obtain rfl := fit0_6.none
  have hrun := specG_true (i := law44_BonusChecks_I) (outs := law44_BonusChecks_O) (T := law44_BonusChecks_T) (args := [argAV (law44_BonusChecks_E.ty 27).d.isAgg [(.int .i64), (.int .i64), (.int .i64), (.int .i64), (.int .i64), (.int .i64), .bool] [.i x0, .i x1, .i x2, .i x3, .i x4, .i x5, .b x6]]) (ps := [.i x0, .i x1, .i x2, .i x3, .i x4, .i x5, .b x6]) rfl (by kernel_rfl)
    (plain x0 x1 x2 x3 x4 x5 x6 lox0 hix0 lox1 hix1 lox2 hix2 lox3 hix3 lox4 hix4 lox5 hix5)
  refine (law_calls law44_BonusChecks_spec (globs hL) (.cons rep0 (.nil)) hrun).mono fun e W' ⟨he, bel⟩ => ?_
  subst he
  exact ⟨_, rfl, _, _, _, [], _, [], hW', trodAll_mk1 (shut_bool Tryd.underlying4 _), trodAll_cons_mk (Below.trod laidOut (by kernel_rfl) (of_decide_eq_true (by kernel_rfl)) k0 bel lt0) (trodAll_mk0), rfl, bel.frame _, fun h => by cases h⟩
noncomputable def laidWorld (os : Os) : World :=
  { (World.holding Tryd.prog os ⟨#[], #[], []⟩) with heap := (World.holding Tryd.prog os ⟨#[], #[], []⟩).heap.modify 0 fun
      | .cells _ t frozen => .cells #[.int .i64 (-1), .int .i64 (-1), .int .i64 1, .int .i64 1, .int .i64 1, .int .i64 (-1)] t frozen
      | o => o }
theorem laid_met (os : Os) : laidMet Tryd.prog Rows.bonusChecksRow.laid ((laidWorld os).forCall (fun _ _ => 0) ⟨#[], #[.agg #[.int .i64 0, .int .i64 0, .int .i64 0, .int .i64 0, .int .i64 0, .int .i64 0, .bool false]], []⟩).memory :=
  laidMet_of_run' 8 (by kernel_rfl) (by kernel_rfl)
theorem reads (os : Os) {H : Type} (enc : TypeId × Value → H) : ∃ places, DataW.whole enc Tryd.prog ((laidWorld os).forCall (fun _ _ => 0) ⟨#[], #[.agg #[.int .i64 0, .int .i64 0, .int .i64 0, .int .i64 0, .int .i64 0, .int .i64 0, .bool false]], []⟩).memory Tryd.f3.params.toList Rows.bonusChecksSpec.vars false (#[.agg #[.int .i64 0, .int .i64 0, .int .i64 0, .int .i64 0, .int .i64 0, .int .i64 0, .bool false]] : Array Value).toList 8 = some ([.agg [.agg [.lit (.int .i64 0), .lit (.int .i64 0)], .agg [.lit (.int .i64 0), .lit (.int .i64 0)], .lit (.int .i64 0), .lit (.int .i64 0), .lit (.bool false)]], [], places) :=
  ⟨[], by kernel_rfl⟩
set_option maxRecDepth 100000 in
theorem lifted (os : Os) (started : os.Started) (H : Type) (enc : TypeId × Value → H) (F : Stop.Interp) :
    ReturnsInHanded {} Tryd.checked os 3 .any ((OpenSpec.ofChange Rows.bonusChecksSpec).preRow enc Tryd.prog Tryd.f3 Rows.bonusChecksRow.domain false Rows.bonusChecksRow.laid) (((OpenSpec.ofChange Rows.bonusChecksSpec).at F).post enc Tryd.prog Tryd.f3 false true false false) := by
  obtain ⟨places, hx⟩ := reads os enc
  refine returnsInHanded_of_row (C := Tryd.checked) (s := OpenSpec.ofChange Rows.bonusChecksSpec) own started (by kernel_rfl) Tryd.func3
    (witness_row_at (enc := enc) (C := Tryd.checked) false (laidWorld os) #[.agg #[.int .i64 0, .int .i64 0, .int .i64 0, .int .i64 0, .int .i64 0, .int .i64 0, .bool false]] rfl (by kernel_rfl) (by kernel_rfl) (by kernel_rfl)
      (OpenSpec.preRow_of_cond 8 hx (by kernel_rfl) (fun k hk => by cases hk) (by kernel_rfl) (laid_met os))) ?_
  intro W base args ds gs before hval hW _ _ _ hL _ _
  exact contract H enc W base args ds gs before hval hW hL
theorem said : Rows.BonusChecksSaid :=
  OpenClaim.holds_of_cond 3 Tryd.f3 rfl rfl rfl rfl rfl rfl rfl ⟨rfl, rfl, rfl, rfl, rfl⟩ rfl rfl rfl rfl rfl (by kernel_rfl) Tryd.func3 (by kernel_rfl)
    (of_decide_eq_true (by kernel_rfl)) (by unfold Func.isWrapper; first | (rw [if_pos (by decide +kernel)]; kernel_rfl) | (rw [if_neg (by decide +kernel)]; exact ⟨rfl, rfl⟩))
    (fun os started H enc _ F => by rw [OpenClaim.pre_eq_preRow]; exact lifted os started H enc F)
theorem plainRow (f : FuncId) (fn : Func) (hf : Tryd.pinned.checked.prog.funcNamed "metrolab/metrolablaw44.BonusChecks" = some f) (hfn : Tryd.pinned.checked.prog.funcs[f]? = some fn) :
    false = Tryd.pinned.checked.prog.looks [] ∧ ∀ (j : Nat) t, fn.params[j]? = some t → Tryd.pinned.checked.prog.wantsStandIn t = false := by
  obtain rfl : f = 3 := Option.some.inj ((show Tryd.prog.funcNamed "metrolab/metrolablaw44.BonusChecks" = some 3 by kernel_rfl).symm.trans hf) |>.symm
  obtain rfl : fn = Tryd.f3 := (Option.some.inj (Tryd.func3.symm.trans hfn)).symm
  refine ⟨by kernel_rfl, fun j t ht => ?_⟩
  rw [Tryd.params3] at ht
  have hall : ∀ t ∈ (#[27] : Array TypeId).toList, Tryd.prog.wantsStandIn t = false := by
    intro t ht
    simp only [List.mem_cons, List.not_mem_nil, or_false] at ht
    subst ht; kernel_rfl
  exact hall t (by simpa using Array.mem_of_getElem? ht)
theorem card : Rows.BonusChecksCardSaid :=
  Claim7.holds_tied_plain_at .later [] _ _ _ _ said (fun _ h => by cases h) (by kernel_rfl) (fun _ h => by cases h) bonusChecks_row_tie rfl ⟨rfl, rfl⟩ (by kernel_rfl) rfl plainRow (by kernel_rfl)
end Go.Proofs.YtoemfkkeojmgkaaDoor.bonusChecks
