/-
  DERIVED. GIVEN WITH THE SEED: THE CARDS: each row of YtcmhbjnmjfhgaaaGreatDoorRows.lean that lists a variable, with what it lists TIED to the program's text (the seventh form; the later family's looks); each row that meets fmt, with fmt's text TOLD by the authors' own Lean function (tested against real Go, not proved from fmt's source: count such statements apart). THE CARD IS WHAT COUNTS. Prove the row's statement (the work); the ties are given (YtcmhbjnmjfhgaaaGreatDoorTie.lean); close each card by the builder's one call (the guide's Derived/Test/ToyasCard.lean, 'card_holds'). Laid BY PROGRAM, IN A SANDBOX (cutbox-door.mjs). By AI agents, Wed Nov 11 2026. No macro, syntax, notation, axiom, sorry.
-/
import Derived.Test.YtcmhbjnmjfhgaaaGreatDoorRows
import GoSem.ClaimSeven
namespace Go.Proofs.YtcmhbjnmjfhgaaaGreatDoor
namespace Rows

/-- THE TIED CARD OF 'laws.FnSpacesRead'. -/
def fnSpacesReadCard : Claim7 := { stood := { row := fnSpacesReadRow, standIns := [], harness := (true, "f707dce8be51a5daf68ccc765d532ba381b3994cb7dd16bf8c4091aafac10b7e"), looks := true }, kinds := [], alts := [], laidByText := true, laidKinds := [.data, .data, .data, .sentinel, .sentinel], laidTests := true, laidLooks := .later }
def FnSpacesReadCardSaid : Prop := Claim7.holds Tryz.pinned (.plain (OpenSpec.ofChange fnSpacesReadSpec)) fnSpacesReadCard

/-- THE TIED CARD OF 'laws.FnExactLinksOf'. -/
def fnExactLinksOfCard : Claim7 := { stood := { row := fnExactLinksOfRow, standIns := [], harness := (true, "f707dce8be51a5daf68ccc765d532ba381b3994cb7dd16bf8c4091aafac10b7e"), looks := true }, kinds := [], alts := [], laidByText := true, laidKinds := [.data, .pinned], laidTests := true, laidLooks := .later }
def FnExactLinksOfCardSaid : Prop := Claim7.holds Tryz.pinned (.plain (OpenSpec.ofChange fnExactLinksOfSpec)) fnExactLinksOfCard

/-- THE TIED CARD OF 'laws.FnExactLinkCount'. -/
def fnExactLinkCountCard : Claim7 := { stood := { row := fnExactLinkCountRow, standIns := [], harness := (true, "f707dce8be51a5daf68ccc765d532ba381b3994cb7dd16bf8c4091aafac10b7e"), looks := true }, kinds := [], alts := [], laidByText := true, laidKinds := [.data, .pinned], laidTests := true, laidLooks := .later }
def FnExactLinkCountCardSaid : Prop := Claim7.holds Tryz.pinned (.plain (OpenSpec.ofChange fnExactLinkCountSpec)) fnExactLinkCountCard

/-- THE TIED CARD OF 'laws.FnExactValidStore'. -/
def fnExactValidStoreCard : Claim7 := { stood := { row := fnExactValidStoreRow, standIns := [], harness := (true, "f707dce8be51a5daf68ccc765d532ba381b3994cb7dd16bf8c4091aafac10b7e"), looks := true }, kinds := [], alts := [], laidByText := true, laidKinds := [.data, .pinned], laidTests := true, laidLooks := .later }
def FnExactValidStoreCardSaid : Prop := Claim7.holds Tryz.pinned (.plain (OpenSpec.ofChange fnExactValidStoreSpec)) fnExactValidStoreCard

/-- THE SECOND FORM's CARD OF 'laws.FnSpacesRead'. -/
def fnSpacesReadUptoCard : Claim7 := { stood := { row := fnSpacesReadUptoRow, standIns := [], harness := (true, "f707dce8be51a5daf68ccc765d532ba381b3994cb7dd16bf8c4091aafac10b7e"), looks := true }, kinds := [], alts := [], laidByText := true, laidKinds := [.data, .data, .data, .sentinel, .sentinel], laidTests := true, laidLooks := .later }
def FnSpacesReadUptoCardSaid : Prop := Claim7.holds Tryz.pinned (.plain (OpenSpec.upto fnSpacesReadSpec)) fnSpacesReadUptoCard

/-- THE SECOND FORM's CARD OF 'laws.FnExactLinksOf'. -/
def fnExactLinksOfUptoCard : Claim7 := { stood := { row := fnExactLinksOfUptoRow, standIns := [], harness := (true, "f707dce8be51a5daf68ccc765d532ba381b3994cb7dd16bf8c4091aafac10b7e"), looks := true }, kinds := [], alts := [], laidByText := true, laidKinds := [.data, .pinned], laidTests := true, laidLooks := .later }
def FnExactLinksOfUptoCardSaid : Prop := Claim7.holds Tryz.pinned (.plain (OpenSpec.upto fnExactLinksOfSpec)) fnExactLinksOfUptoCard

/-- THE SECOND FORM's CARD OF 'laws.FnExactLinkCount'. -/
def fnExactLinkCountUptoCard : Claim7 := { stood := { row := fnExactLinkCountUptoRow, standIns := [], harness := (true, "f707dce8be51a5daf68ccc765d532ba381b3994cb7dd16bf8c4091aafac10b7e"), looks := true }, kinds := [], alts := [], laidByText := true, laidKinds := [.data, .pinned], laidTests := true, laidLooks := .later }
def FnExactLinkCountUptoCardSaid : Prop := Claim7.holds Tryz.pinned (.plain (OpenSpec.upto fnExactLinkCountSpec)) fnExactLinkCountUptoCard

/-- THE SECOND FORM's CARD OF 'laws.FnExactValidStore'. -/
def fnExactValidStoreUptoCard : Claim7 := { stood := { row := fnExactValidStoreUptoRow, standIns := [], harness := (true, "f707dce8be51a5daf68ccc765d532ba381b3994cb7dd16bf8c4091aafac10b7e"), looks := true }, kinds := [], alts := [], laidByText := true, laidKinds := [.data, .pinned], laidTests := true, laidLooks := .later }
def FnExactValidStoreUptoCardSaid : Prop := Claim7.holds Tryz.pinned (.plain (OpenSpec.upto fnExactValidStoreSpec)) fnExactValidStoreUptoCard
end Rows
end Go.Proofs.YtcmhbjnmjfhgaaaGreatDoor
