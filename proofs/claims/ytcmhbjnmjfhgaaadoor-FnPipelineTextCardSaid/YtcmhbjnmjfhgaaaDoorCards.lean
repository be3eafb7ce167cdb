/-
  DERIVED. GIVEN WITH THE SEED: THE CARDS: each row of YtcmhbjnmjfhgaaaDoorRows.lean that lists a variable, with what it lists TIED to the program's text (the seventh form; the later family's looks); each row that meets fmt, with fmt's text TOLD by the authors' own Lean function (tested against real Go, not proved from fmt's source: count such statements apart). THE CARD IS WHAT COUNTS. Prove the row's statement (the work); the ties are given (YtcmhbjnmjfhgaaaDoorTie.lean); close each card by the builder's one call (the guide's Derived/Test/ToyasCard.lean, 'card_holds'). Laid BY PROGRAM, IN A SANDBOX (cutbox-door.mjs). By AI agents, Wed Nov 11 2026. No macro, syntax, notation, axiom, sorry.
-/
import Derived.Test.YtcmhbjnmjfhgaaaDoorRows
import GoSem.ClaimSeven
namespace Go.Proofs.YtcmhbjnmjfhgaaaDoor
namespace Rows

/-- THE TIED CARD OF 'laws.FnPipelineText'. -/
def fnPipelineTextCard : Claim7 := { stood := { row := fnPipelineTextRow, standIns := [], harness := (true, "b5e0b1b1a59c887a57992831172e7165bab9833c35e4f0ac3d10d6b372b42f8c"), looks := true }, kinds := [], alts := [], laidByText := true, laidKinds := [.data, .data, .data, .sentinel, .sentinel], laidTests := true, laidLooks := .later }
def FnPipelineTextCardSaid : Prop := Claim7.holds Tryd.pinned (.plain (OpenSpec.ofChange fnPipelineTextSpec)) fnPipelineTextCard

/-- THE TIED CARD OF 'laws.FnLinkText'. -/
def fnLinkTextCard : Claim7 := { stood := { row := fnLinkTextRow, standIns := [], harness := (true, "b5e0b1b1a59c887a57992831172e7165bab9833c35e4f0ac3d10d6b372b42f8c"), looks := true }, kinds := [], alts := [], laidByText := true, laidKinds := [.data, .pinned], laidTests := true, laidLooks := .later }
def FnLinkTextCardSaid : Prop := Claim7.holds Tryd.pinned (.plain (OpenSpec.ofChange fnLinkTextSpec)) fnLinkTextCard

/-- THE SECOND FORM's CARD OF 'laws.FnPipelineText'. -/
def fnPipelineTextUptoCard : Claim7 := { stood := { row := fnPipelineTextUptoRow, standIns := [], harness := (true, "b5e0b1b1a59c887a57992831172e7165bab9833c35e4f0ac3d10d6b372b42f8c"), looks := true }, kinds := [], alts := [], laidByText := true, laidKinds := [.data, .data, .data, .sentinel, .sentinel], laidTests := true, laidLooks := .later }
def FnPipelineTextUptoCardSaid : Prop := Claim7.holds Tryd.pinned (.plain (OpenSpec.upto fnPipelineTextSpec)) fnPipelineTextUptoCard

/-- THE SECOND FORM's CARD OF 'laws.FnLinkText'. -/
def fnLinkTextUptoCard : Claim7 := { stood := { row := fnLinkTextUptoRow, standIns := [], harness := (true, "b5e0b1b1a59c887a57992831172e7165bab9833c35e4f0ac3d10d6b372b42f8c"), looks := true }, kinds := [], alts := [], laidByText := true, laidKinds := [.data, .pinned], laidTests := true, laidLooks := .later }
def FnLinkTextUptoCardSaid : Prop := Claim7.holds Tryd.pinned (.plain (OpenSpec.upto fnLinkTextSpec)) fnLinkTextUptoCard
end Rows
end Go.Proofs.YtcmhbjnmjfhgaaaDoor
