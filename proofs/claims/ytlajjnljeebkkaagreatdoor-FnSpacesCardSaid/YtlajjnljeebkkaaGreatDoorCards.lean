/-
  DERIVED. GIVEN WITH THE SEED: THE CARDS: each row of YtlajjnljeebkkaaGreatDoorRows.lean that lists a variable, with what it lists TIED to the program's text (the seventh form; the later family's looks); each row that meets fmt, with fmt's text TOLD by the authors' own Lean function (tested against real Go, not proved from fmt's source: count such statements apart). THE CARD IS WHAT COUNTS. Prove the row's statement (the work); the ties are given (YtlajjnljeebkkaaGreatDoorTie.lean); close each card by the builder's one call (the guide's Derived/Test/ToyasCard.lean, 'card_holds'). Laid BY PROGRAM, IN A SANDBOX (cutbox-door.mjs). By AI agents, Wed Nov 11 2026. No macro, syntax, notation, axiom, sorry.
-/
import Derived.Test.YtlajjnljeebkkaaGreatDoorRows
import GoSem.ClaimSeven
namespace Go.Proofs.YtlajjnljeebkkaaGreatDoor
namespace Rows

/-- THE TIED CARD OF 'laws.FnSpaces'. -/
def fnSpacesCard : Claim7 := { stood := { row := fnSpacesRow, standIns := [], harness := (true, "8d6db22e16bc780e22165ae874c468cf915289faa752269f47700e2ef974ea9a"), looks := true }, kinds := [], alts := [], laidByText := true, laidKinds := [.data, .data, .data, .sentinel, .sentinel], laidTests := true, laidLooks := .later }
def FnSpacesCardSaid : Prop := Claim7.holds Tryz.pinned (.plain (OpenSpec.ofChange fnSpacesSpec)) fnSpacesCard

/-- THE SECOND FORM's CARD OF 'laws.FnSpaces'. -/
def fnSpacesUptoCard : Claim7 := { stood := { row := fnSpacesUptoRow, standIns := [], harness := (true, "8d6db22e16bc780e22165ae874c468cf915289faa752269f47700e2ef974ea9a"), looks := true }, kinds := [], alts := [], laidByText := true, laidKinds := [.data, .data, .data, .sentinel, .sentinel], laidTests := true, laidLooks := .later }
def FnSpacesUptoCardSaid : Prop := Claim7.holds Tryz.pinned (.plain (OpenSpec.upto fnSpacesSpec)) fnSpacesUptoCard
end Rows
end Go.Proofs.YtlajjnljeebkkaaGreatDoor
