/-
  DERIVED. GIVEN WITH THE SEED: THE CARDS: each row of YtakhpblefnpjcaaDoorRows.lean that lists a variable, with what it lists TIED to the program's text (the seventh form; the later family's looks); each row that meets fmt, with fmt's text TOLD by the authors' own Lean function (tested against real Go, not proved from fmt's source: count such statements apart). THE CARD IS WHAT COUNTS. Prove the row's statement (the work); the ties are given (YtakhpblefnpjcaaDoorTie.lean); close each card by the builder's one call (the guide's Derived/Test/ToyasCard.lean, 'card_holds'). Laid BY PROGRAM, IN A SANDBOX (cutbox-door.mjs). By AI agents, Wed Nov 11 2026. No macro, syntax, notation, axiom, sorry.
-/
import Derived.Test.YtakhpblefnpjcaaDoorRows
import GoSem.ClaimSeven
namespace Go.Proofs.YtakhpblefnpjcaaDoor
namespace Rows

/-- THE TIED CARD OF 'laws.FnExactSelectionText'. -/
def fnExactSelectionTextCard : Claim7 := { stood := { row := fnExactSelectionTextRow, standIns := [], harness := (true, "23f9f95a86e7045595c361f6c0aefff24e61a118fc36470284ce9e256ce1e3e9"), looks := true }, kinds := [], alts := [], laidByText := true, laidKinds := [.data, .data, .data], laidTests := true, laidLooks := .later }
def FnExactSelectionTextCardSaid : Prop := Claim7.holds Tryd.pinned (.plain (OpenSpec.ofChange fnExactSelectionTextSpec)) fnExactSelectionTextCard

/-- THE TIED CARD OF 'laws.FnExactReadSpace'. -/
def fnExactReadSpaceCard : Claim7 := { stood := { row := fnExactReadSpaceRow, standIns := [], harness := (true, "23f9f95a86e7045595c361f6c0aefff24e61a118fc36470284ce9e256ce1e3e9"), looks := true }, kinds := [], alts := [], laidByText := true, laidKinds := [.data, .data, .data, .sentinel, .sentinel], laidTests := true, laidLooks := .later }
def FnExactReadSpaceCardSaid : Prop := Claim7.holds Tryd.pinned (.plain (OpenSpec.ofChange fnExactReadSpaceSpec)) fnExactReadSpaceCard

/-- THE TIED CARD OF 'laws.FnExactReadPipeline'. -/
def fnExactReadPipelineCard : Claim7 := { stood := { row := fnExactReadPipelineRow, standIns := [], harness := (true, "23f9f95a86e7045595c361f6c0aefff24e61a118fc36470284ce9e256ce1e3e9"), looks := true }, kinds := [], alts := [], laidByText := true, laidKinds := [.data, .data, .data, .sentinel, .sentinel], laidTests := true, laidLooks := .later }
def FnExactReadPipelineCardSaid : Prop := Claim7.holds Tryd.pinned (.plain (OpenSpec.ofChange fnExactReadPipelineSpec)) fnExactReadPipelineCard

/-- THE TIED CARD OF 'laws.FnNumbersText'. -/
def fnNumbersTextCard : Claim7 := { stood := { row := fnNumbersTextRow, standIns := [], harness := (true, "23f9f95a86e7045595c361f6c0aefff24e61a118fc36470284ce9e256ce1e3e9"), looks := true }, kinds := [], alts := [], laidByText := true, laidKinds := [.data, .data, .data, .data, .sentinel, .sentinel, .pinned], laidTests := true, laidLooks := .later }
def FnNumbersTextCardSaid : Prop := Claim7.holds Tryd.pinned (.plain (OpenSpec.ofChange fnNumbersTextSpec)) fnNumbersTextCard

/-- THE TIED CARD OF 'laws.FnExactReadNumbers'. -/
def fnExactReadNumbersCard : Claim7 := { stood := { row := fnExactReadNumbersRow, standIns := [], harness := (true, "23f9f95a86e7045595c361f6c0aefff24e61a118fc36470284ce9e256ce1e3e9"), looks := true }, kinds := [], alts := [], laidByText := true, laidKinds := [.data, .data, .data, .data, .sentinel, .sentinel, .pinned], laidTests := true, laidLooks := .later }
def FnExactReadNumbersCardSaid : Prop := Claim7.holds Tryd.pinned (.plain (OpenSpec.ofChange fnExactReadNumbersSpec)) fnExactReadNumbersCard

/-- THE SECOND FORM's CARD OF 'laws.FnExactSelectionText'. -/
def fnExactSelectionTextUptoCard : Claim7 := { stood := { row := fnExactSelectionTextUptoRow, standIns := [], harness := (true, "23f9f95a86e7045595c361f6c0aefff24e61a118fc36470284ce9e256ce1e3e9"), looks := true }, kinds := [], alts := [], laidByText := true, laidKinds := [.data, .data, .data], laidTests := true, laidLooks := .later }
def FnExactSelectionTextUptoCardSaid : Prop := Claim7.holds Tryd.pinned (.plain (OpenSpec.upto fnExactSelectionTextSpec)) fnExactSelectionTextUptoCard

/-- THE SECOND FORM's CARD OF 'laws.FnExactReadSpace'. -/
def fnExactReadSpaceUptoCard : Claim7 := { stood := { row := fnExactReadSpaceUptoRow, standIns := [], harness := (true, "23f9f95a86e7045595c361f6c0aefff24e61a118fc36470284ce9e256ce1e3e9"), looks := true }, kinds := [], alts := [], laidByText := true, laidKinds := [.data, .data, .data, .sentinel, .sentinel], laidTests := true, laidLooks := .later }
def FnExactReadSpaceUptoCardSaid : Prop := Claim7.holds Tryd.pinned (.plain (OpenSpec.upto fnExactReadSpaceSpec)) fnExactReadSpaceUptoCard

/-- THE SECOND FORM's CARD OF 'laws.FnExactReadPipeline'. -/
def fnExactReadPipelineUptoCard : Claim7 := { stood := { row := fnExactReadPipelineUptoRow, standIns := [], harness := (true, "23f9f95a86e7045595c361f6c0aefff24e61a118fc36470284ce9e256ce1e3e9"), looks := true }, kinds := [], alts := [], laidByText := true, laidKinds := [.data, .data, .data, .sentinel, .sentinel], laidTests := true, laidLooks := .later }
def FnExactReadPipelineUptoCardSaid : Prop := Claim7.holds Tryd.pinned (.plain (OpenSpec.upto fnExactReadPipelineSpec)) fnExactReadPipelineUptoCard

/-- THE SECOND FORM's CARD OF 'laws.FnNumbersText'. -/
def fnNumbersTextUptoCard : Claim7 := { stood := { row := fnNumbersTextUptoRow, standIns := [], harness := (true, "23f9f95a86e7045595c361f6c0aefff24e61a118fc36470284ce9e256ce1e3e9"), looks := true }, kinds := [], alts := [], laidByText := true, laidKinds := [.data, .data, .data, .data, .sentinel, .sentinel, .pinned], laidTests := true, laidLooks := .later }
def FnNumbersTextUptoCardSaid : Prop := Claim7.holds Tryd.pinned (.plain (OpenSpec.upto fnNumbersTextSpec)) fnNumbersTextUptoCard

/-- THE SECOND FORM's CARD OF 'laws.FnExactReadNumbers'. -/
def fnExactReadNumbersUptoCard : Claim7 := { stood := { row := fnExactReadNumbersUptoRow, standIns := [], harness := (true, "23f9f95a86e7045595c361f6c0aefff24e61a118fc36470284ce9e256ce1e3e9"), looks := true }, kinds := [], alts := [], laidByText := true, laidKinds := [.data, .data, .data, .data, .sentinel, .sentinel, .pinned], laidTests := true, laidLooks := .later }
def FnExactReadNumbersUptoCardSaid : Prop := Claim7.holds Tryd.pinned (.plain (OpenSpec.upto fnExactReadNumbersSpec)) fnExactReadNumbersUptoCard
end Rows
end Go.Proofs.YtakhpblefnpjcaaDoor
