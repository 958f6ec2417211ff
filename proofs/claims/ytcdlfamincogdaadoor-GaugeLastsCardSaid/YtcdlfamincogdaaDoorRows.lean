/-
  NARROWER THAN 'FOR EVERY INPUT', by the rows' own cells (each row's printed sentence says how): GaugeGuards: laid · GaugeLoses: laid · GaugeWears: laid · GaugeNarrows: laid · GaugeDesigns: laid · GaugeLasts: laid · GaugeKeeps: laid.
  DERIVED. THE GIVEN ROWS OF THIS SEAT. 7 by the template 'for every input the law returns true; each argument reads behind the call as it read before'; 0 by the template 'total and deterministic' (their statements: YtcdlfamincogdaaDoorTotals.lean).
  GIVEN WITH THE SEED: the statements are not yours to turn. If you find one false, say at which input.
  Laid BY PROGRAM, IN A SANDBOX (cutbox-rows.mjs): the forced cells as the released guide's own fill.sh prints them over the translation 6fe545b3dcb1b8c2… (all of the seat's roots in one cut). By AI agents, Wed Nov 11 2026. No macro, syntax, notation, axiom, sorry.
-/
import Derived.Test.YtcdlfamincogdaaDoorChecked
import GoSem.Claim
import GoSem.ClaimJoined
import GoSem.ClaimMapViews
import Derived.JoinedTies
import Derived.KernelRfl
namespace Go.Proofs.YtcdlfamincogdaaDoor
/- THE CELL 'sum', in the pinned program and in every row, IS THE sha256 OF THE DUMP (.gsa) THAT YtcdlfamincogdaaDoorProg.lean LOADS. Nothing in Lean hashes anything: it is a label: what it is worth is what the hold of that sum in a sandbox is worth. -/
noncomputable def Tryd.pinned : Pinned := { name := "ytcdlfamincogdaadoor", sum := "6fe545b3dcb1b8c2588d66310ec6530e3f52ecb854c5940ab817a43f42be8672", checked := Tryd.checked }
namespace Rows
def none {H : Type} : Left H := { results := [], args := [] }

/- WHAT THE LISTED PACKAGE-LEVEL VARIABLES READ AS WHEN THE CALL BEGINS. Each datum BY PROGRAM (the guide's laid-datum.mjs) off the statement by which the dump's own 'gosem.cut.vars' lays the variable. In a bare row this is a premise. The card (YtcdlfamincogdaaDoorCards.lean) ties it to the program's text. -/
def laid_metrolab_bonus_signs {H : Type} : DataW H := .agg [.agg [.lit (.int .i64 (-1)), .lit (.int .i64 (-1)), .lit (.int .i64 1)], .agg [.lit (.int .i64 1), .lit (.int .i64 1), .lit (.int .i64 (-1))]]

/-- 'metrolablaw47.GaugeGuards': WHATEVER THE INPUT: true; the input reads as it did. -/
def gaugeGuardsSpec : ChangeSpec := { name := "gaugeGuards", fn := fun _ => fun
  | [d1, d2] => { results := [.lit (.bool true)], args := [d1, d2] }
  | _ => none }
def gaugeGuardsRow : OpenClaim := { program := "ytcdlfamincogdaadoor", sum := "6fe545b3dcb1b8c2588d66310ec6530e3f52ecb854c5940ab817a43f42be8672", func := "metrolab/metrolablaw47.GaugeGuards", spec := "gaugeGuards", unfollowed := true, recurses := true, named := ["metrolab/bonus.signs"], apart := false, laid := [("metrolab/bonus.signs", laid_metrolab_bonus_signs)] }
def GaugeGuardsSaid : Prop := gaugeGuardsRow.holds Tryd.pinned (OpenSpec.ofChange gaugeGuardsSpec)

/-- ITS FALSE NEIGHBOUR: 'it returns false'. Refute it at one input. -/
def gaugeGuardsWrong : ChangeSpec := { name := "gaugeGuards", fn := fun _ => fun
  | [d1, d2] => { results := [.lit (.bool false)], args := [d1, d2] }
  | _ => none }
def GaugeGuardsWrongFalsely : Prop := gaugeGuardsRow.holds Tryd.pinned (OpenSpec.ofChange gaugeGuardsWrong)

/-- 'metrolablaw47.GaugeLoses': WHATEVER THE INPUT: true; the input reads as it did. -/
def gaugeLosesSpec : ChangeSpec := { name := "gaugeLoses", fn := fun _ => fun
  | [d1, d2, d3] => { results := [.lit (.bool true)], args := [d1, d2, d3] }
  | _ => none }
def gaugeLosesRow : OpenClaim := { program := "ytcdlfamincogdaadoor", sum := "6fe545b3dcb1b8c2588d66310ec6530e3f52ecb854c5940ab817a43f42be8672", func := "metrolab/metrolablaw47.GaugeLoses", spec := "gaugeLoses", unfollowed := true, recurses := true, named := ["metrolab/bonus.signs"], apart := false, laid := [("metrolab/bonus.signs", laid_metrolab_bonus_signs)] }
def GaugeLosesSaid : Prop := gaugeLosesRow.holds Tryd.pinned (OpenSpec.ofChange gaugeLosesSpec)

/-- ITS FALSE NEIGHBOUR: 'it returns false'. Refute it at one input. -/
def gaugeLosesWrong : ChangeSpec := { name := "gaugeLoses", fn := fun _ => fun
  | [d1, d2, d3] => { results := [.lit (.bool false)], args := [d1, d2, d3] }
  | _ => none }
def GaugeLosesWrongFalsely : Prop := gaugeLosesRow.holds Tryd.pinned (OpenSpec.ofChange gaugeLosesWrong)

/-- 'metrolablaw47.GaugeWears': WHATEVER THE INPUT: true; the input reads as it did. -/
def gaugeWearsSpec : ChangeSpec := { name := "gaugeWears", fn := fun _ => fun
  | [d1, d2] => { results := [.lit (.bool true)], args := [d1, d2] }
  | _ => none }
def gaugeWearsRow : OpenClaim := { program := "ytcdlfamincogdaadoor", sum := "6fe545b3dcb1b8c2588d66310ec6530e3f52ecb854c5940ab817a43f42be8672", func := "metrolab/metrolablaw47.GaugeWears", spec := "gaugeWears", unfollowed := true, recurses := true, named := ["metrolab/bonus.signs"], apart := false, laid := [("metrolab/bonus.signs", laid_metrolab_bonus_signs)] }
def GaugeWearsSaid : Prop := gaugeWearsRow.holds Tryd.pinned (OpenSpec.ofChange gaugeWearsSpec)

/-- ITS FALSE NEIGHBOUR: 'it returns false'. Refute it at one input. -/
def gaugeWearsWrong : ChangeSpec := { name := "gaugeWears", fn := fun _ => fun
  | [d1, d2] => { results := [.lit (.bool false)], args := [d1, d2] }
  | _ => none }
def GaugeWearsWrongFalsely : Prop := gaugeWearsRow.holds Tryd.pinned (OpenSpec.ofChange gaugeWearsWrong)

/-- 'metrolablaw47.GaugeNarrows': WHATEVER THE INPUT: true; the input reads as it did. -/
def gaugeNarrowsSpec : ChangeSpec := { name := "gaugeNarrows", fn := fun _ => fun
  | [d1, d2] => { results := [.lit (.bool true)], args := [d1, d2] }
  | _ => none }
def gaugeNarrowsRow : OpenClaim := { program := "ytcdlfamincogdaadoor", sum := "6fe545b3dcb1b8c2588d66310ec6530e3f52ecb854c5940ab817a43f42be8672", func := "metrolab/metrolablaw47.GaugeNarrows", spec := "gaugeNarrows", unfollowed := true, recurses := true, named := ["metrolab/bonus.signs"], apart := false, laid := [("metrolab/bonus.signs", laid_metrolab_bonus_signs)] }
def GaugeNarrowsSaid : Prop := gaugeNarrowsRow.holds Tryd.pinned (OpenSpec.ofChange gaugeNarrowsSpec)

/-- ITS FALSE NEIGHBOUR: 'it returns false'. Refute it at one input. -/
def gaugeNarrowsWrong : ChangeSpec := { name := "gaugeNarrows", fn := fun _ => fun
  | [d1, d2] => { results := [.lit (.bool false)], args := [d1, d2] }
  | _ => none }
def GaugeNarrowsWrongFalsely : Prop := gaugeNarrowsRow.holds Tryd.pinned (OpenSpec.ofChange gaugeNarrowsWrong)

/-- 'metrolablaw47.GaugeDesigns': WHATEVER THE INPUT: true; the input reads as it did. -/
def gaugeDesignsSpec : ChangeSpec := { name := "gaugeDesigns", fn := fun _ => fun
  | [d1, d2] => { results := [.lit (.bool true)], args := [d1, d2] }
  | _ => none }
def gaugeDesignsRow : OpenClaim := { program := "ytcdlfamincogdaadoor", sum := "6fe545b3dcb1b8c2588d66310ec6530e3f52ecb854c5940ab817a43f42be8672", func := "metrolab/metrolablaw47.GaugeDesigns", spec := "gaugeDesigns", unfollowed := true, recurses := true, named := ["metrolab/bonus.signs"], apart := false, laid := [("metrolab/bonus.signs", laid_metrolab_bonus_signs)] }
def GaugeDesignsSaid : Prop := gaugeDesignsRow.holds Tryd.pinned (OpenSpec.ofChange gaugeDesignsSpec)

/-- ITS FALSE NEIGHBOUR: 'it returns false'. Refute it at one input. -/
def gaugeDesignsWrong : ChangeSpec := { name := "gaugeDesigns", fn := fun _ => fun
  | [d1, d2] => { results := [.lit (.bool false)], args := [d1, d2] }
  | _ => none }
def GaugeDesignsWrongFalsely : Prop := gaugeDesignsRow.holds Tryd.pinned (OpenSpec.ofChange gaugeDesignsWrong)

/-- 'metrolablaw47.GaugeLasts': WHATEVER THE INPUT: true; the input reads as it did. -/
def gaugeLastsSpec : ChangeSpec := { name := "gaugeLasts", fn := fun _ => fun
  | [d1, d2, d3] => { results := [.lit (.bool true)], args := [d1, d2, d3] }
  | _ => none }
def gaugeLastsRow : OpenClaim := { program := "ytcdlfamincogdaadoor", sum := "6fe545b3dcb1b8c2588d66310ec6530e3f52ecb854c5940ab817a43f42be8672", func := "metrolab/metrolablaw47.GaugeLasts", spec := "gaugeLasts", unfollowed := true, recurses := true, named := ["metrolab/bonus.signs"], apart := false, laid := [("metrolab/bonus.signs", laid_metrolab_bonus_signs)] }
def GaugeLastsSaid : Prop := gaugeLastsRow.holds Tryd.pinned (OpenSpec.ofChange gaugeLastsSpec)

/-- ITS FALSE NEIGHBOUR: 'it returns false'. Refute it at one input. -/
def gaugeLastsWrong : ChangeSpec := { name := "gaugeLasts", fn := fun _ => fun
  | [d1, d2, d3] => { results := [.lit (.bool false)], args := [d1, d2, d3] }
  | _ => none }
def GaugeLastsWrongFalsely : Prop := gaugeLastsRow.holds Tryd.pinned (OpenSpec.ofChange gaugeLastsWrong)

/-- 'metrolablaw47.GaugeKeeps': WHATEVER THE INPUT: true; the input reads as it did. -/
def gaugeKeepsSpec : ChangeSpec := { name := "gaugeKeeps", fn := fun _ => fun
  | [d1, d2, d3] => { results := [.lit (.bool true)], args := [d1, d2, d3] }
  | _ => none }
def gaugeKeepsRow : OpenClaim := { program := "ytcdlfamincogdaadoor", sum := "6fe545b3dcb1b8c2588d66310ec6530e3f52ecb854c5940ab817a43f42be8672", func := "metrolab/metrolablaw47.GaugeKeeps", spec := "gaugeKeeps", unfollowed := true, recurses := true, named := ["metrolab/bonus.signs"], apart := false, laid := [("metrolab/bonus.signs", laid_metrolab_bonus_signs)] }
def GaugeKeepsSaid : Prop := gaugeKeepsRow.holds Tryd.pinned (OpenSpec.ofChange gaugeKeepsSpec)

/-- ITS FALSE NEIGHBOUR: 'it returns false'. Refute it at one input. -/
def gaugeKeepsWrong : ChangeSpec := { name := "gaugeKeeps", fn := fun _ => fun
  | [d1, d2, d3] => { results := [.lit (.bool false)], args := [d1, d2, d3] }
  | _ => none }
def GaugeKeepsWrongFalsely : Prop := gaugeKeepsRow.holds Tryd.pinned (OpenSpec.ofChange gaugeKeepsWrong)

/- THE SECOND FORM. 'bulk': how many values and letters a reading holds, each counted each time it is reached (what is shared counts as often as it is met; a slice's spare places count too). A statement '..UptoSaid' is the law's where the arguments, and the package variables that the reading takes, are together of bulk at most 1048576: NARROWER than '..Said'. Prove '..Said' where nothing that the law and all that it calls make is longer than what came in: it says more and counts as full. Else prove '..UptoSaid'. A law counts once. -/
mutual
def uptoBulk {H : Type} : DataW H → Nat
  | .lit (.string bytes) => bytes.length + 1
  | .lit _ => 1
  | .nil => 1
  | .ptr d => uptoBulk d + 1
  | .slice elems spare => uptoBulkAll elems + uptoBulkAll spare + 1
  | .agg parts => uptoBulkAll parts + 1
  | .iface _ d => uptoBulk d + 1
  | .map entries => uptoBulkEntries entries + 1
  | .held _ => 1
def uptoBulkAll {H : Type} : List (DataW H) → Nat
  | [] => 0
  | d :: r => uptoBulk d + uptoBulkAll r
def uptoBulkEntries {H : Type} : List (Lit × DataW H) → Nat
  | [] => 0
  | x :: r => uptoBulkEntry x + uptoBulkEntries r
def uptoBulkEntry {H : Type} : Lit × DataW H → Nat
  | (.string bytes, d) => bytes.length + uptoBulk d + 1
  | (_, d) => uptoBulk d + 1
 end
def uptoSmall : (H : Type) → List (DataW H) → Bool := fun _ ds => decide (uptoBulkAll ds ≤ 1048576)
def OpenSpec.upto (s : _root_.Go.ChangeSpec) : _root_.Go.OpenSpec := { _root_.Go.OpenSpec.ofChange s with cond := some uptoSmall }

/-- 'metrolablaw47.GaugeGuards', WHERE WHAT IT READS IS OF BULK AT MOST 1048576: true; the input reads as it did. -/
def gaugeGuardsUptoRow : OpenClaim := { program := "ytcdlfamincogdaadoor", sum := "6fe545b3dcb1b8c2588d66310ec6530e3f52ecb854c5940ab817a43f42be8672", func := "metrolab/metrolablaw47.GaugeGuards", spec := "gaugeGuards", unfollowed := true, recurses := true, named := ["metrolab/bonus.signs"], apart := false, laid := [("metrolab/bonus.signs", laid_metrolab_bonus_signs)], narrowed := true }
def GaugeGuardsUptoSaid : Prop := gaugeGuardsUptoRow.holds Tryd.pinned (OpenSpec.upto gaugeGuardsSpec)

/-- 'metrolablaw47.GaugeLoses', WHERE WHAT IT READS IS OF BULK AT MOST 1048576: true; the input reads as it did. -/
def gaugeLosesUptoRow : OpenClaim := { program := "ytcdlfamincogdaadoor", sum := "6fe545b3dcb1b8c2588d66310ec6530e3f52ecb854c5940ab817a43f42be8672", func := "metrolab/metrolablaw47.GaugeLoses", spec := "gaugeLoses", unfollowed := true, recurses := true, named := ["metrolab/bonus.signs"], apart := false, laid := [("metrolab/bonus.signs", laid_metrolab_bonus_signs)], narrowed := true }
def GaugeLosesUptoSaid : Prop := gaugeLosesUptoRow.holds Tryd.pinned (OpenSpec.upto gaugeLosesSpec)

/-- 'metrolablaw47.GaugeWears', WHERE WHAT IT READS IS OF BULK AT MOST 1048576: true; the input reads as it did. -/
def gaugeWearsUptoRow : OpenClaim := { program := "ytcdlfamincogdaadoor", sum := "6fe545b3dcb1b8c2588d66310ec6530e3f52ecb854c5940ab817a43f42be8672", func := "metrolab/metrolablaw47.GaugeWears", spec := "gaugeWears", unfollowed := true, recurses := true, named := ["metrolab/bonus.signs"], apart := false, laid := [("metrolab/bonus.signs", laid_metrolab_bonus_signs)], narrowed := true }
def GaugeWearsUptoSaid : Prop := gaugeWearsUptoRow.holds Tryd.pinned (OpenSpec.upto gaugeWearsSpec)

/-- 'metrolablaw47.GaugeNarrows', WHERE WHAT IT READS IS OF BULK AT MOST 1048576: true; the input reads as it did. -/
def gaugeNarrowsUptoRow : OpenClaim := { program := "ytcdlfamincogdaadoor", sum := "6fe545b3dcb1b8c2588d66310ec6530e3f52ecb854c5940ab817a43f42be8672", func := "metrolab/metrolablaw47.GaugeNarrows", spec := "gaugeNarrows", unfollowed := true, recurses := true, named := ["metrolab/bonus.signs"], apart := false, laid := [("metrolab/bonus.signs", laid_metrolab_bonus_signs)], narrowed := true }
def GaugeNarrowsUptoSaid : Prop := gaugeNarrowsUptoRow.holds Tryd.pinned (OpenSpec.upto gaugeNarrowsSpec)

/-- 'metrolablaw47.GaugeDesigns', WHERE WHAT IT READS IS OF BULK AT MOST 1048576: true; the input reads as it did. -/
def gaugeDesignsUptoRow : OpenClaim := { program := "ytcdlfamincogdaadoor", sum := "6fe545b3dcb1b8c2588d66310ec6530e3f52ecb854c5940ab817a43f42be8672", func := "metrolab/metrolablaw47.GaugeDesigns", spec := "gaugeDesigns", unfollowed := true, recurses := true, named := ["metrolab/bonus.signs"], apart := false, laid := [("metrolab/bonus.signs", laid_metrolab_bonus_signs)], narrowed := true }
def GaugeDesignsUptoSaid : Prop := gaugeDesignsUptoRow.holds Tryd.pinned (OpenSpec.upto gaugeDesignsSpec)

/-- 'metrolablaw47.GaugeLasts', WHERE WHAT IT READS IS OF BULK AT MOST 1048576: true; the input reads as it did. -/
def gaugeLastsUptoRow : OpenClaim := { program := "ytcdlfamincogdaadoor", sum := "6fe545b3dcb1b8c2588d66310ec6530e3f52ecb854c5940ab817a43f42be8672", func := "metrolab/metrolablaw47.GaugeLasts", spec := "gaugeLasts", unfollowed := true, recurses := true, named := ["metrolab/bonus.signs"], apart := false, laid := [("metrolab/bonus.signs", laid_metrolab_bonus_signs)], narrowed := true }
def GaugeLastsUptoSaid : Prop := gaugeLastsUptoRow.holds Tryd.pinned (OpenSpec.upto gaugeLastsSpec)

/-- 'metrolablaw47.GaugeKeeps', WHERE WHAT IT READS IS OF BULK AT MOST 1048576: true; the input reads as it did. -/
def gaugeKeepsUptoRow : OpenClaim := { program := "ytcdlfamincogdaadoor", sum := "6fe545b3dcb1b8c2588d66310ec6530e3f52ecb854c5940ab817a43f42be8672", func := "metrolab/metrolablaw47.GaugeKeeps", spec := "gaugeKeeps", unfollowed := true, recurses := true, named := ["metrolab/bonus.signs"], apart := false, laid := [("metrolab/bonus.signs", laid_metrolab_bonus_signs)], narrowed := true }
def GaugeKeepsUptoSaid : Prop := gaugeKeepsUptoRow.holds Tryd.pinned (OpenSpec.upto gaugeKeepsSpec)

end Rows
end Go.Proofs.YtcdlfamincogdaaDoor
