/-
  DERIVED. GIVEN WITH THE SEED: THE CARDS: each row of YtlajjnljeebkkaaDoorRows.lean that lists a variable, with what it lists TIED to the program's text (the seventh form; the later family's looks); each row that meets fmt, with fmt's text TOLD by the authors' own Lean function (tested against real Go, not proved from fmt's source: count such statements apart). THE CARD IS WHAT COUNTS. Prove the row's statement (the work); the ties are given (YtlajjnljeebkkaaDoorTie.lean); close each card by the builder's one call (the guide's Derived/Test/ToyasCard.lean, 'card_holds'). Laid BY PROGRAM, IN A SANDBOX (cutbox-door.mjs). By AI agents, Wed Nov 11 2026. No macro, syntax, notation, axiom, sorry.
-/
import Derived.Test.YtlajjnljeebkkaaDoorRows
import GoSem.ClaimSeven
namespace Go.Proofs.YtlajjnljeebkkaaDoor
namespace Rows

/-- THE TIED CARD OF 'laws.FnExactSelectionText'. -/
def fnExactSelectionTextCard : Claim7 := { stood := { row := fnExactSelectionTextRow, standIns := [], harness := (true, "4717dea2e47d52236b9792a182fc7e35cc12dbe4cc376f35586cecc1a38f761d"), looks := true }, kinds := [], alts := [], laidByText := true, laidKinds := [.data, .data, .data], laidTests := true, laidLooks := .later }
def FnExactSelectionTextCardSaid : Prop := Claim7.holds Tryd.pinned (.plain (OpenSpec.ofChange fnExactSelectionTextSpec)) fnExactSelectionTextCard

/-- THE TIED CARD OF 'laws.FnExactReadSpace'. -/
def fnExactReadSpaceCard : Claim7 := { stood := { row := fnExactReadSpaceRow, standIns := [], harness := (true, "4717dea2e47d52236b9792a182fc7e35cc12dbe4cc376f35586cecc1a38f761d"), looks := true }, kinds := [], alts := [], laidByText := true, laidKinds := [.data, .data, .data, .sentinel, .sentinel], laidTests := true, laidLooks := .later }
def FnExactReadSpaceCardSaid : Prop := Claim7.holds Tryd.pinned (.plain (OpenSpec.ofChange fnExactReadSpaceSpec)) fnExactReadSpaceCard

/-- THE TIED CARD OF 'laws.FnExactReadPipeline'. -/
def fnExactReadPipelineCard : Claim7 := { stood := { row := fnExactReadPipelineRow, standIns := [], harness := (true, "4717dea2e47d52236b9792a182fc7e35cc12dbe4cc376f35586cecc1a38f761d"), looks := true }, kinds := [], alts := [], laidByText := true, laidKinds := [.data, .data, .data, .sentinel, .sentinel], laidTests := true, laidLooks := .later }
def FnExactReadPipelineCardSaid : Prop := Claim7.holds Tryd.pinned (.plain (OpenSpec.ofChange fnExactReadPipelineSpec)) fnExactReadPipelineCard

/-- THE TIED CARD OF 'laws.FnExactReadNumbers'. -/
def fnExactReadNumbersCard : Claim7 := { stood := { row := fnExactReadNumbersRow, standIns := [], harness := (true, "4717dea2e47d52236b9792a182fc7e35cc12dbe4cc376f35586cecc1a38f761d"), looks := true }, kinds := [], alts := [], laidByText := true, laidKinds := [.data, .data, .data, .data, .sentinel, .sentinel, .pinned], laidTests := true, laidLooks := .later }
def FnExactReadNumbersCardSaid : Prop := Claim7.holds Tryd.pinned (.plain (OpenSpec.ofChange fnExactReadNumbersSpec)) fnExactReadNumbersCard

/-- THE TIED CARD OF 'laws.FnNumbersText'. -/
def fnNumbersTextCard : Claim7 := { stood := { row := fnNumbersTextRow, standIns := [], harness := (true, "4717dea2e47d52236b9792a182fc7e35cc12dbe4cc376f35586cecc1a38f761d"), looks := true }, kinds := [], alts := [], laidByText := true, laidKinds := [.data, .data, .data, .data, .sentinel, .sentinel, .pinned], laidTests := true, laidLooks := .later }
def FnNumbersTextCardSaid : Prop := Claim7.holds Tryd.pinned (.plain (OpenSpec.ofChange fnNumbersTextSpec)) fnNumbersTextCard

/-- THE SECOND FORM's CARD OF 'laws.FnExactSelectionText'. -/
def fnExactSelectionTextUptoCard : Claim7 := { stood := { row := fnExactSelectionTextUptoRow, standIns := [], harness := (true, "4717dea2e47d52236b9792a182fc7e35cc12dbe4cc376f35586cecc1a38f761d"), looks := true }, kinds := [], alts := [], laidByText := true, laidKinds := [.data, .data, .data], laidTests := true, laidLooks := .later }
def FnExactSelectionTextUptoCardSaid : Prop := Claim7.holds Tryd.pinned (.plain (OpenSpec.upto fnExactSelectionTextSpec)) fnExactSelectionTextUptoCard

/-- THE SECOND FORM's CARD OF 'laws.FnExactReadSpace'. -/
def fnExactReadSpaceUptoCard : Claim7 := { stood := { row := fnExactReadSpaceUptoRow, standIns := [], harness := (true, "4717dea2e47d52236b9792a182fc7e35cc12dbe4cc376f35586cecc1a38f761d"), looks := true }, kinds := [], alts := [], laidByText := true, laidKinds := [.data, .data, .data, .sentinel, .sentinel], laidTests := true, laidLooks := .later }
def FnExactReadSpaceUptoCardSaid : Prop := Claim7.holds Tryd.pinned (.plain (OpenSpec.upto fnExactReadSpaceSpec)) fnExactReadSpaceUptoCard

/-- THE SECOND FORM's CARD OF 'laws.FnExactReadPipeline'. -/
def fnExactReadPipelineUptoCard : Claim7 := { stood := { row := fnExactReadPipelineUptoRow, standIns := [], harness := (true, "4717dea2e47d52236b9792a182fc7e35cc12dbe4cc376f35586cecc1a38f761d"), looks := true }, kinds := [], alts := [], laidByText := true, laidKinds := [.data, .data, .data, .sentinel, .sentinel], laidTests := true, laidLooks := .later }
def FnExactReadPipelineUptoCardSaid : Prop := Claim7.holds Tryd.pinned (.plain (OpenSpec.upto fnExactReadPipelineSpec)) fnExactReadPipelineUptoCard

/-- THE SECOND FORM's CARD OF 'laws.FnExactReadNumbers'. -/
def fnExactReadNumbersUptoCard : Claim7 := { stood := { row := fnExactReadNumbersUptoRow, standIns := [], harness := (true, "4717dea2e47d52236b9792a182fc7e35cc12dbe4cc376f35586cecc1a38f761d"), looks := true }, kinds := [], alts := [], laidByText := true, laidKinds := [.data, .data, .data, .data, .sentinel, .sentinel, .pinned], laidTests := true, laidLooks := .later }
def FnExactReadNumbersUptoCardSaid : Prop := Claim7.holds Tryd.pinned (.plain (OpenSpec.upto fnExactReadNumbersSpec)) fnExactReadNumbersUptoCard

/-- THE SECOND FORM's CARD OF 'laws.FnNumbersText'. -/
def fnNumbersTextUptoCard : Claim7 := { stood := { row := fnNumbersTextUptoRow, standIns := [], harness := (true, "4717dea2e47d52236b9792a182fc7e35cc12dbe4cc376f35586cecc1a38f761d"), looks := true }, kinds := [], alts := [], laidByText := true, laidKinds := [.data, .data, .data, .data, .sentinel, .sentinel, .pinned], laidTests := true, laidLooks := .later }
def FnNumbersTextUptoCardSaid : Prop := Claim7.holds Tryd.pinned (.plain (OpenSpec.upto fnNumbersTextSpec)) fnNumbersTextUptoCard
end Rows
end Go.Proofs.YtlajjnljeebkkaaDoor
