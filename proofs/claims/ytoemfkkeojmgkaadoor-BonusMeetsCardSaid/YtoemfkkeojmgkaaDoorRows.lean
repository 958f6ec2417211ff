/-
  NARROWER THAN 'FOR EVERY INPUT', by the rows' own cells (each row's printed sentence says how): BonusChecks: laid · BonusSizes: laid · BonusMeets: laid · BonusGauges: laid · BonusGrows: laid · BonusBoxes: laid · BonusKeeps: laid · BonusPlates: laid.
  DERIVED. THE GIVEN ROWS OF THIS SEAT. 8 by the template 'for every input the law returns true; each argument reads behind the call as it read before'; 0 by the template 'total and deterministic' (their statements: YtoemfkkeojmgkaaDoorTotals.lean).
  GIVEN WITH THE SEED: the statements are not yours to turn. If you find one false, say at which input.
  Laid BY PROGRAM, IN A SANDBOX (cutbox-rows.mjs): the forced cells as the released guide's own fill.sh prints them over the translation 57a70a43bc7de02e… (all of the seat's roots in one cut). By AI agents, Wed Nov 11 2026. No macro, syntax, notation, axiom, sorry.
-/
import Derived.Test.YtoemfkkeojmgkaaDoorChecked
import GoSem.Claim
import GoSem.ClaimJoined
import GoSem.ClaimMapViews
import Derived.JoinedTies
import Derived.KernelRfl
namespace Go.Proofs.YtoemfkkeojmgkaaDoor
/- THE CELL 'sum', in the pinned program and in every row, IS THE sha256 OF THE DUMP (.gsa) THAT YtoemfkkeojmgkaaDoorProg.lean LOADS. Nothing in Lean hashes anything: it is a label: what it is worth is what the hold of that sum in a sandbox is worth. -/
noncomputable def Tryd.pinned : Pinned := { name := "ytoemfkkeojmgkaadoor", sum := "57a70a43bc7de02e54d5d9c217755ae4a18d33de306e209b4cce893e5fe971cf", checked := Tryd.checked }
namespace Rows
def none {H : Type} : Left H := { results := [], args := [] }

/- WHAT THE LISTED PACKAGE-LEVEL VARIABLES READ AS WHEN THE CALL BEGINS. Each datum BY PROGRAM (the guide's laid-datum.mjs) off the statement by which the dump's own 'gosem.cut.vars' lays the variable. In a bare row this is a premise. The card (YtoemfkkeojmgkaaDoorCards.lean) ties it to the program's text. -/
def laid_metrolab_bonus_signs {H : Type} : DataW H := .agg [.agg [.lit (.int .i64 (-1)), .lit (.int .i64 (-1)), .lit (.int .i64 1)], .agg [.lit (.int .i64 1), .lit (.int .i64 1), .lit (.int .i64 (-1))]]

/-- 'metrolablaw44.BonusChecks': WHATEVER THE INPUT: true; the input reads as it did. -/
def bonusChecksSpec : ChangeSpec := { name := "bonusChecks", fn := fun _ => fun
  | [d] => { results := [.lit (.bool true)], args := [d] }
  | _ => none }
def bonusChecksRow : OpenClaim := { program := "ytoemfkkeojmgkaadoor", sum := "57a70a43bc7de02e54d5d9c217755ae4a18d33de306e209b4cce893e5fe971cf", func := "metrolab/metrolablaw44.BonusChecks", spec := "bonusChecks", named := ["metrolab/bonus.signs"], apart := false, laid := [("metrolab/bonus.signs", laid_metrolab_bonus_signs)] }
def BonusChecksSaid : Prop := bonusChecksRow.holds Tryd.pinned (OpenSpec.ofChange bonusChecksSpec)

/-- ITS FALSE NEIGHBOUR: 'it returns false'. Refute it at one input. -/
def bonusChecksWrong : ChangeSpec := { name := "bonusChecks", fn := fun _ => fun
  | [d] => { results := [.lit (.bool false)], args := [d] }
  | _ => none }
def BonusChecksWrongFalsely : Prop := bonusChecksRow.holds Tryd.pinned (OpenSpec.ofChange bonusChecksWrong)

/-- 'metrolablaw44.BonusSizes': WHATEVER THE INPUT: true; the input reads as it did. -/
def bonusSizesSpec : ChangeSpec := { name := "bonusSizes", fn := fun _ => fun
  | [d1, d2] => { results := [.lit (.bool true)], args := [d1, d2] }
  | _ => none }
def bonusSizesRow : OpenClaim := { program := "ytoemfkkeojmgkaadoor", sum := "57a70a43bc7de02e54d5d9c217755ae4a18d33de306e209b4cce893e5fe971cf", func := "metrolab/metrolablaw44.BonusSizes", spec := "bonusSizes", named := ["metrolab/bonus.signs"], apart := false, laid := [("metrolab/bonus.signs", laid_metrolab_bonus_signs)] }
def BonusSizesSaid : Prop := bonusSizesRow.holds Tryd.pinned (OpenSpec.ofChange bonusSizesSpec)

/-- ITS FALSE NEIGHBOUR: 'it returns false'. Refute it at one input. -/
def bonusSizesWrong : ChangeSpec := { name := "bonusSizes", fn := fun _ => fun
  | [d1, d2] => { results := [.lit (.bool false)], args := [d1, d2] }
  | _ => none }
def BonusSizesWrongFalsely : Prop := bonusSizesRow.holds Tryd.pinned (OpenSpec.ofChange bonusSizesWrong)

/-- 'metrolablaw44.BonusMeets': WHATEVER THE INPUT: true; the input reads as it did. -/
def bonusMeetsSpec : ChangeSpec := { name := "bonusMeets", fn := fun _ => fun
  | [d1, d2] => { results := [.lit (.bool true)], args := [d1, d2] }
  | _ => none }
def bonusMeetsRow : OpenClaim := { program := "ytoemfkkeojmgkaadoor", sum := "57a70a43bc7de02e54d5d9c217755ae4a18d33de306e209b4cce893e5fe971cf", func := "metrolab/metrolablaw44.BonusMeets", spec := "bonusMeets", named := ["metrolab/bonus.signs"], apart := false, laid := [("metrolab/bonus.signs", laid_metrolab_bonus_signs)] }
def BonusMeetsSaid : Prop := bonusMeetsRow.holds Tryd.pinned (OpenSpec.ofChange bonusMeetsSpec)

/-- ITS FALSE NEIGHBOUR: 'it returns false'. Refute it at one input. -/
def bonusMeetsWrong : ChangeSpec := { name := "bonusMeets", fn := fun _ => fun
  | [d1, d2] => { results := [.lit (.bool false)], args := [d1, d2] }
  | _ => none }
def BonusMeetsWrongFalsely : Prop := bonusMeetsRow.holds Tryd.pinned (OpenSpec.ofChange bonusMeetsWrong)

/-- 'metrolablaw44.BonusGauges': WHATEVER THE INPUT: true; the input reads as it did. -/
def bonusGaugesSpec : ChangeSpec := { name := "bonusGauges", fn := fun _ => fun
  | [d1, d2, d3] => { results := [.lit (.bool true)], args := [d1, d2, d3] }
  | _ => none }
def bonusGaugesRow : OpenClaim := { program := "ytoemfkkeojmgkaadoor", sum := "57a70a43bc7de02e54d5d9c217755ae4a18d33de306e209b4cce893e5fe971cf", func := "metrolab/metrolablaw44.BonusGauges", spec := "bonusGauges", named := ["metrolab/bonus.signs"], apart := false, laid := [("metrolab/bonus.signs", laid_metrolab_bonus_signs)] }
def BonusGaugesSaid : Prop := bonusGaugesRow.holds Tryd.pinned (OpenSpec.ofChange bonusGaugesSpec)

/-- ITS FALSE NEIGHBOUR: 'it returns false'. Refute it at one input. -/
def bonusGaugesWrong : ChangeSpec := { name := "bonusGauges", fn := fun _ => fun
  | [d1, d2, d3] => { results := [.lit (.bool false)], args := [d1, d2, d3] }
  | _ => none }
def BonusGaugesWrongFalsely : Prop := bonusGaugesRow.holds Tryd.pinned (OpenSpec.ofChange bonusGaugesWrong)

/-- 'metrolablaw44.BonusGrows': WHATEVER THE INPUT: true; the input reads as it did. -/
def bonusGrowsSpec : ChangeSpec := { name := "bonusGrows", fn := fun _ => fun
  | [d1, d2] => { results := [.lit (.bool true)], args := [d1, d2] }
  | _ => none }
def bonusGrowsRow : OpenClaim := { program := "ytoemfkkeojmgkaadoor", sum := "57a70a43bc7de02e54d5d9c217755ae4a18d33de306e209b4cce893e5fe971cf", func := "metrolab/metrolablaw44.BonusGrows", spec := "bonusGrows", named := ["metrolab/bonus.signs"], apart := false, laid := [("metrolab/bonus.signs", laid_metrolab_bonus_signs)] }
def BonusGrowsSaid : Prop := bonusGrowsRow.holds Tryd.pinned (OpenSpec.ofChange bonusGrowsSpec)

/-- ITS FALSE NEIGHBOUR: 'it returns false'. Refute it at one input. -/
def bonusGrowsWrong : ChangeSpec := { name := "bonusGrows", fn := fun _ => fun
  | [d1, d2] => { results := [.lit (.bool false)], args := [d1, d2] }
  | _ => none }
def BonusGrowsWrongFalsely : Prop := bonusGrowsRow.holds Tryd.pinned (OpenSpec.ofChange bonusGrowsWrong)

/-- 'metrolablaw44.BonusBoxes': WHATEVER THE INPUT: true; the input reads as it did. -/
def bonusBoxesSpec : ChangeSpec := { name := "bonusBoxes", fn := fun _ => fun
  | [d1, d2, d3] => { results := [.lit (.bool true)], args := [d1, d2, d3] }
  | _ => none }
def bonusBoxesRow : OpenClaim := { program := "ytoemfkkeojmgkaadoor", sum := "57a70a43bc7de02e54d5d9c217755ae4a18d33de306e209b4cce893e5fe971cf", func := "metrolab/metrolablaw44.BonusBoxes", spec := "bonusBoxes", named := ["metrolab/bonus.signs"], apart := false, laid := [("metrolab/bonus.signs", laid_metrolab_bonus_signs)] }
def BonusBoxesSaid : Prop := bonusBoxesRow.holds Tryd.pinned (OpenSpec.ofChange bonusBoxesSpec)

/-- ITS FALSE NEIGHBOUR: 'it returns false'. Refute it at one input. -/
def bonusBoxesWrong : ChangeSpec := { name := "bonusBoxes", fn := fun _ => fun
  | [d1, d2, d3] => { results := [.lit (.bool false)], args := [d1, d2, d3] }
  | _ => none }
def BonusBoxesWrongFalsely : Prop := bonusBoxesRow.holds Tryd.pinned (OpenSpec.ofChange bonusBoxesWrong)

/-- 'metrolablaw44.BonusKeeps': WHATEVER THE INPUT: true; the input reads as it did. -/
def bonusKeepsSpec : ChangeSpec := { name := "bonusKeeps", fn := fun _ => fun
  | [d1, d2] => { results := [.lit (.bool true)], args := [d1, d2] }
  | _ => none }
def bonusKeepsRow : OpenClaim := { program := "ytoemfkkeojmgkaadoor", sum := "57a70a43bc7de02e54d5d9c217755ae4a18d33de306e209b4cce893e5fe971cf", func := "metrolab/metrolablaw44.BonusKeeps", spec := "bonusKeeps", named := ["metrolab/bonus.signs"], apart := false, laid := [("metrolab/bonus.signs", laid_metrolab_bonus_signs)] }
def BonusKeepsSaid : Prop := bonusKeepsRow.holds Tryd.pinned (OpenSpec.ofChange bonusKeepsSpec)

/-- ITS FALSE NEIGHBOUR: 'it returns false'. Refute it at one input. -/
def bonusKeepsWrong : ChangeSpec := { name := "bonusKeeps", fn := fun _ => fun
  | [d1, d2] => { results := [.lit (.bool false)], args := [d1, d2] }
  | _ => none }
def BonusKeepsWrongFalsely : Prop := bonusKeepsRow.holds Tryd.pinned (OpenSpec.ofChange bonusKeepsWrong)

/-- 'metrolablaw44.BonusPlates': WHATEVER THE INPUT: true; the input reads as it did. -/
def bonusPlatesSpec : ChangeSpec := { name := "bonusPlates", fn := fun _ => fun
  | [d1, d2] => { results := [.lit (.bool true)], args := [d1, d2] }
  | _ => none }
def bonusPlatesRow : OpenClaim := { program := "ytoemfkkeojmgkaadoor", sum := "57a70a43bc7de02e54d5d9c217755ae4a18d33de306e209b4cce893e5fe971cf", func := "metrolab/metrolablaw44.BonusPlates", spec := "bonusPlates", named := ["metrolab/bonus.signs"], apart := false, laid := [("metrolab/bonus.signs", laid_metrolab_bonus_signs)] }
def BonusPlatesSaid : Prop := bonusPlatesRow.holds Tryd.pinned (OpenSpec.ofChange bonusPlatesSpec)

/-- ITS FALSE NEIGHBOUR: 'it returns false'. Refute it at one input. -/
def bonusPlatesWrong : ChangeSpec := { name := "bonusPlates", fn := fun _ => fun
  | [d1, d2] => { results := [.lit (.bool false)], args := [d1, d2] }
  | _ => none }
def BonusPlatesWrongFalsely : Prop := bonusPlatesRow.holds Tryd.pinned (OpenSpec.ofChange bonusPlatesWrong)

/- THE SECOND FORM. 'bulk': how many values and letters a reading holds, each counted each time it is reached (what is shared counts as often as it is met; a slice's spare places count too). A statement '..UptoSaid' is the law's where the arguments, and the package variables that the reading takes, are together of bulk at most 1048576: NARROWER than '..Said'. Prove '..Said' where nothing that the law and all that it calls make is longer than what came in: it says more and counts as full. Else prove '..UptoSaid'. A law counts once. -/
mutual
def uptoBulk {H : Type} : DataW H → Nat
  | .lit (.string bytes) => bytes.length + 1
  | .lit _ => 1
  | .nil => 1
  | .ptr d => uptoBulk d + 1
  | .slice elems spare => uptoBulkAll elems + uptoBulkAll spare + 1
  | .agg parts => uptoBulkAll parts + 1
  | .iface _ d => uptoBulk d + 1
  | .map entries => uptoBulkEntries entries + 1
  | .held _ => 1
def uptoBulkAll {H : Type} : List (DataW H) → Nat
  | [] => 0
  | d :: r => uptoBulk d + uptoBulkAll r
def uptoBulkEntries {H : Type} : List (Lit × DataW H) → Nat
  | [] => 0
  | x :: r => uptoBulkEntry x + uptoBulkEntries r
def uptoBulkEntry {H : Type} : Lit × DataW H → Nat
  | (.string bytes, d) => bytes.length + uptoBulk d + 1
  | (_, d) => uptoBulk d + 1
 end
def uptoSmall : (H : Type) → List (DataW H) → Bool := fun _ ds => decide (uptoBulkAll ds ≤ 1048576)
def OpenSpec.upto (s : _root_.Go.ChangeSpec) : _root_.Go.OpenSpec := { _root_.Go.OpenSpec.ofChange s with cond := some uptoSmall }

/-- 'metrolablaw44.BonusChecks', WHERE WHAT IT READS IS OF BULK AT MOST 1048576: true; the input reads as it did. -/
def bonusChecksUptoRow : OpenClaim := { program := "ytoemfkkeojmgkaadoor", sum := "57a70a43bc7de02e54d5d9c217755ae4a18d33de306e209b4cce893e5fe971cf", func := "metrolab/metrolablaw44.BonusChecks", spec := "bonusChecks", named := ["metrolab/bonus.signs"], apart := false, laid := [("metrolab/bonus.signs", laid_metrolab_bonus_signs)], narrowed := true }
def BonusChecksUptoSaid : Prop := bonusChecksUptoRow.holds Tryd.pinned (OpenSpec.upto bonusChecksSpec)

/-- 'metrolablaw44.BonusSizes', WHERE WHAT IT READS IS OF BULK AT MOST 1048576: true; the input reads as it did. -/
def bonusSizesUptoRow : OpenClaim := { program := "ytoemfkkeojmgkaadoor", sum := "57a70a43bc7de02e54d5d9c217755ae4a18d33de306e209b4cce893e5fe971cf", func := "metrolab/metrolablaw44.BonusSizes", spec := "bonusSizes", named := ["metrolab/bonus.signs"], apart := false, laid := [("metrolab/bonus.signs", laid_metrolab_bonus_signs)], narrowed := true }
def BonusSizesUptoSaid : Prop := bonusSizesUptoRow.holds Tryd.pinned (OpenSpec.upto bonusSizesSpec)

/-- 'metrolablaw44.BonusMeets', WHERE WHAT IT READS IS OF BULK AT MOST 1048576: true; the input reads as it did. -/
def bonusMeetsUptoRow : OpenClaim := { program := "ytoemfkkeojmgkaadoor", sum := "57a70a43bc7de02e54d5d9c217755ae4a18d33de306e209b4cce893e5fe971cf", func := "metrolab/metrolablaw44.BonusMeets", spec := "bonusMeets", named := ["metrolab/bonus.signs"], apart := false, laid := [("metrolab/bonus.signs", laid_metrolab_bonus_signs)], narrowed := true }
def BonusMeetsUptoSaid : Prop := bonusMeetsUptoRow.holds Tryd.pinned (OpenSpec.upto bonusMeetsSpec)

/-- 'metrolablaw44.BonusGauges', WHERE WHAT IT READS IS OF BULK AT MOST 1048576: true; the input reads as it did. -/
def bonusGaugesUptoRow : OpenClaim := { program := "ytoemfkkeojmgkaadoor", sum := "57a70a43bc7de02e54d5d9c217755ae4a18d33de306e209b4cce893e5fe971cf", func := "metrolab/metrolablaw44.BonusGauges", spec := "bonusGauges", named := ["metrolab/bonus.signs"], apart := false, laid := [("metrolab/bonus.signs", laid_metrolab_bonus_signs)], narrowed := true }
def BonusGaugesUptoSaid : Prop := bonusGaugesUptoRow.holds Tryd.pinned (OpenSpec.upto bonusGaugesSpec)

/-- 'metrolablaw44.BonusGrows', WHERE WHAT IT READS IS OF BULK AT MOST 1048576: true; the input reads as it did. -/
def bonusGrowsUptoRow : OpenClaim := { program := "ytoemfkkeojmgkaadoor", sum := "57a70a43bc7de02e54d5d9c217755ae4a18d33de306e209b4cce893e5fe971cf", func := "metrolab/metrolablaw44.BonusGrows", spec := "bonusGrows", named := ["metrolab/bonus.signs"], apart := false, laid := [("metrolab/bonus.signs", laid_metrolab_bonus_signs)], narrowed := true }
def BonusGrowsUptoSaid : Prop := bonusGrowsUptoRow.holds Tryd.pinned (OpenSpec.upto bonusGrowsSpec)

/-- 'metrolablaw44.BonusBoxes', WHERE WHAT IT READS IS OF BULK AT MOST 1048576: true; the input reads as it did. -/
def bonusBoxesUptoRow : OpenClaim := { program := "ytoemfkkeojmgkaadoor", sum := "57a70a43bc7de02e54d5d9c217755ae4a18d33de306e209b4cce893e5fe971cf", func := "metrolab/metrolablaw44.BonusBoxes", spec := "bonusBoxes", named := ["metrolab/bonus.signs"], apart := false, laid := [("metrolab/bonus.signs", laid_metrolab_bonus_signs)], narrowed := true }
def BonusBoxesUptoSaid : Prop := bonusBoxesUptoRow.holds Tryd.pinned (OpenSpec.upto bonusBoxesSpec)

/-- 'metrolablaw44.BonusKeeps', WHERE WHAT IT READS IS OF BULK AT MOST 1048576: true; the input reads as it did. -/
def bonusKeepsUptoRow : OpenClaim := { program := "ytoemfkkeojmgkaadoor", sum := "57a70a43bc7de02e54d5d9c217755ae4a18d33de306e209b4cce893e5fe971cf", func := "metrolab/metrolablaw44.BonusKeeps", spec := "bonusKeeps", named := ["metrolab/bonus.signs"], apart := false, laid := [("metrolab/bonus.signs", laid_metrolab_bonus_signs)], narrowed := true }
def BonusKeepsUptoSaid : Prop := bonusKeepsUptoRow.holds Tryd.pinned (OpenSpec.upto bonusKeepsSpec)

/-- 'metrolablaw44.BonusPlates', WHERE WHAT IT READS IS OF BULK AT MOST 1048576: true; the input reads as it did. -/
def bonusPlatesUptoRow : OpenClaim := { program := "ytoemfkkeojmgkaadoor", sum := "57a70a43bc7de02e54d5d9c217755ae4a18d33de306e209b4cce893e5fe971cf", func := "metrolab/metrolablaw44.BonusPlates", spec := "bonusPlates", named := ["metrolab/bonus.signs"], apart := false, laid := [("metrolab/bonus.signs", laid_metrolab_bonus_signs)], narrowed := true }
def BonusPlatesUptoSaid : Prop := bonusPlatesUptoRow.holds Tryd.pinned (OpenSpec.upto bonusPlatesSpec)

end Rows
end Go.Proofs.YtoemfkkeojmgkaaDoor
