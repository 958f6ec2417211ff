/-
  DERIVED. GIVEN WITH THE SEED: THE CARDS: each row of YtcdlfamincogdaaDoorRows.lean that lists a variable, with what it lists TIED to the program's text (the seventh form; the later family's looks); each row that meets fmt, with fmt's text TOLD by the authors' own Lean function (tested against real Go, not proved from fmt's source: count such statements apart). THE CARD IS WHAT COUNTS. Prove the row's statement (the work); the ties are given (YtcdlfamincogdaaDoorTie.lean); close each card by the builder's one call (the guide's Derived/Test/ToyasCard.lean, 'card_holds'). Laid BY PROGRAM, IN A SANDBOX (cutbox-door.mjs). By AI agents, Wed Nov 11 2026. No macro, syntax, notation, axiom, sorry.
-/
import Derived.Test.YtcdlfamincogdaaDoorRows
import GoSem.ClaimSeven
namespace Go.Proofs.YtcdlfamincogdaaDoor
namespace Rows

/-- THE TIED CARD OF 'metrolablaw47.GaugeGuards'. -/
def gaugeGuardsCard : Claim7 := { stood := { row := gaugeGuardsRow, standIns := [], harness := (true, "e5a5da46b658b96111674c903fe43f8e1f0448a0a1dd3a06ee38079fdf074467"), looks := false }, kinds := [], alts := [], laidByText := true, laidKinds := [.data], laidTests := true, laidLooks := .later }
def GaugeGuardsCardSaid : Prop := Claim7.holds Tryd.pinned (.plain (OpenSpec.ofChange gaugeGuardsSpec)) gaugeGuardsCard

/-- THE TIED CARD OF 'metrolablaw47.GaugeLoses'. -/
def gaugeLosesCard : Claim7 := { stood := { row := gaugeLosesRow, standIns := [], harness := (true, "e5a5da46b658b96111674c903fe43f8e1f0448a0a1dd3a06ee38079fdf074467"), looks := false }, kinds := [], alts := [], laidByText := true, laidKinds := [.data], laidTests := true, laidLooks := .later }
def GaugeLosesCardSaid : Prop := Claim7.holds Tryd.pinned (.plain (OpenSpec.ofChange gaugeLosesSpec)) gaugeLosesCard

/-- THE TIED CARD OF 'metrolablaw47.GaugeWears'. -/
def gaugeWearsCard : Claim7 := { stood := { row := gaugeWearsRow, standIns := [], harness := (true, "e5a5da46b658b96111674c903fe43f8e1f0448a0a1dd3a06ee38079fdf074467"), looks := false }, kinds := [], alts := [], laidByText := true, laidKinds := [.data], laidTests := true, laidLooks := .later }
def GaugeWearsCardSaid : Prop := Claim7.holds Tryd.pinned (.plain (OpenSpec.ofChange gaugeWearsSpec)) gaugeWearsCard

/-- THE TIED CARD OF 'metrolablaw47.GaugeNarrows'. -/
def gaugeNarrowsCard : Claim7 := { stood := { row := gaugeNarrowsRow, standIns := [], harness := (true, "e5a5da46b658b96111674c903fe43f8e1f0448a0a1dd3a06ee38079fdf074467"), looks := false }, kinds := [], alts := [], laidByText := true, laidKinds := [.data], laidTests := true, laidLooks := .later }
def GaugeNarrowsCardSaid : Prop := Claim7.holds Tryd.pinned (.plain (OpenSpec.ofChange gaugeNarrowsSpec)) gaugeNarrowsCard

/-- THE TIED CARD OF 'metrolablaw47.GaugeDesigns'. -/
def gaugeDesignsCard : Claim7 := { stood := { row := gaugeDesignsRow, standIns := [], harness := (true, "e5a5da46b658b96111674c903fe43f8e1f0448a0a1dd3a06ee38079fdf074467"), looks := false }, kinds := [], alts := [], laidByText := true, laidKinds := [.data], laidTests := true, laidLooks := .later }
def GaugeDesignsCardSaid : Prop := Claim7.holds Tryd.pinned (.plain (OpenSpec.ofChange gaugeDesignsSpec)) gaugeDesignsCard

/-- THE TIED CARD OF 'metrolablaw47.GaugeLasts'. -/
def gaugeLastsCard : Claim7 := { stood := { row := gaugeLastsRow, standIns := [], harness := (true, "e5a5da46b658b96111674c903fe43f8e1f0448a0a1dd3a06ee38079fdf074467"), looks := false }, kinds := [], alts := [], laidByText := true, laidKinds := [.data], laidTests := true, laidLooks := .later }
def GaugeLastsCardSaid : Prop := Claim7.holds Tryd.pinned (.plain (OpenSpec.ofChange gaugeLastsSpec)) gaugeLastsCard

/-- THE TIED CARD OF 'metrolablaw47.GaugeKeeps'. -/
def gaugeKeepsCard : Claim7 := { stood := { row := gaugeKeepsRow, standIns := [], harness := (true, "e5a5da46b658b96111674c903fe43f8e1f0448a0a1dd3a06ee38079fdf074467"), looks := false }, kinds := [], alts := [], laidByText := true, laidKinds := [.data], laidTests := true, laidLooks := .later }
def GaugeKeepsCardSaid : Prop := Claim7.holds Tryd.pinned (.plain (OpenSpec.ofChange gaugeKeepsSpec)) gaugeKeepsCard

/-- THE SECOND FORM's CARD OF 'metrolablaw47.GaugeGuards'. -/
def gaugeGuardsUptoCard : Claim7 := { stood := { row := gaugeGuardsUptoRow, standIns := [], harness := (true, "e5a5da46b658b96111674c903fe43f8e1f0448a0a1dd3a06ee38079fdf074467"), looks := false }, kinds := [], alts := [], laidByText := true, laidKinds := [.data], laidTests := true, laidLooks := .later }
def GaugeGuardsUptoCardSaid : Prop := Claim7.holds Tryd.pinned (.plain (OpenSpec.upto gaugeGuardsSpec)) gaugeGuardsUptoCard

/-- THE SECOND FORM's CARD OF 'metrolablaw47.GaugeLoses'. -/
def gaugeLosesUptoCard : Claim7 := { stood := { row := gaugeLosesUptoRow, standIns := [], harness := (true, "e5a5da46b658b96111674c903fe43f8e1f0448a0a1dd3a06ee38079fdf074467"), looks := false }, kinds := [], alts := [], laidByText := true, laidKinds := [.data], laidTests := true, laidLooks := .later }
def GaugeLosesUptoCardSaid : Prop := Claim7.holds Tryd.pinned (.plain (OpenSpec.upto gaugeLosesSpec)) gaugeLosesUptoCard

/-- THE SECOND FORM's CARD OF 'metrolablaw47.GaugeWears'. -/
def gaugeWearsUptoCard : Claim7 := { stood := { row := gaugeWearsUptoRow, standIns := [], harness := (true, "e5a5da46b658b96111674c903fe43f8e1f0448a0a1dd3a06ee38079fdf074467"), looks := false }, kinds := [], alts := [], laidByText := true, laidKinds := [.data], laidTests := true, laidLooks := .later }
def GaugeWearsUptoCardSaid : Prop := Claim7.holds Tryd.pinned (.plain (OpenSpec.upto gaugeWearsSpec)) gaugeWearsUptoCard

/-- THE SECOND FORM's CARD OF 'metrolablaw47.GaugeNarrows'. -/
def gaugeNarrowsUptoCard : Claim7 := { stood := { row := gaugeNarrowsUptoRow, standIns := [], harness := (true, "e5a5da46b658b96111674c903fe43f8e1f0448a0a1dd3a06ee38079fdf074467"), looks := false }, kinds := [], alts := [], laidByText := true, laidKinds := [.data], laidTests := true, laidLooks := .later }
def GaugeNarrowsUptoCardSaid : Prop := Claim7.holds Tryd.pinned (.plain (OpenSpec.upto gaugeNarrowsSpec)) gaugeNarrowsUptoCard

/-- THE SECOND FORM's CARD OF 'metrolablaw47.GaugeDesigns'. -/
def gaugeDesignsUptoCard : Claim7 := { stood := { row := gaugeDesignsUptoRow, standIns := [], harness := (true, "e5a5da46b658b96111674c903fe43f8e1f0448a0a1dd3a06ee38079fdf074467"), looks := false }, kinds := [], alts := [], laidByText := true, laidKinds := [.data], laidTests := true, laidLooks := .later }
def GaugeDesignsUptoCardSaid : Prop := Claim7.holds Tryd.pinned (.plain (OpenSpec.upto gaugeDesignsSpec)) gaugeDesignsUptoCard

/-- THE SECOND FORM's CARD OF 'metrolablaw47.GaugeLasts'. -/
def gaugeLastsUptoCard : Claim7 := { stood := { row := gaugeLastsUptoRow, standIns := [], harness := (true, "e5a5da46b658b96111674c903fe43f8e1f0448a0a1dd3a06ee38079fdf074467"), looks := false }, kinds := [], alts := [], laidByText := true, laidKinds := [.data], laidTests := true, laidLooks := .later }
def GaugeLastsUptoCardSaid : Prop := Claim7.holds Tryd.pinned (.plain (OpenSpec.upto gaugeLastsSpec)) gaugeLastsUptoCard

/-- THE SECOND FORM's CARD OF 'metrolablaw47.GaugeKeeps'. -/
def gaugeKeepsUptoCard : Claim7 := { stood := { row := gaugeKeepsUptoRow, standIns := [], harness := (true, "e5a5da46b658b96111674c903fe43f8e1f0448a0a1dd3a06ee38079fdf074467"), looks := false }, kinds := [], alts := [], laidByText := true, laidKinds := [.data], laidTests := true, laidLooks := .later }
def GaugeKeepsUptoCardSaid : Prop := Claim7.holds Tryd.pinned (.plain (OpenSpec.upto gaugeKeepsSpec)) gaugeKeepsUptoCard
end Rows
end Go.Proofs.YtcdlfamincogdaaDoor
