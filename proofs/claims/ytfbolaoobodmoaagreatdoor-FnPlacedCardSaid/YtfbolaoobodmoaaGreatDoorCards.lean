/-
  DERIVED. GIVEN WITH THE SEED: THE CARDS: each row of YtfbolaoobodmoaaGreatDoorRows.lean that lists a variable, with what it lists TIED to the program's text (the seventh form; the later family's looks); each row that meets fmt, with fmt's text TOLD by the authors' own Lean function (tested against real Go, not proved from fmt's source: count such statements apart). THE CARD IS WHAT COUNTS. Prove the row's statement (the work); the ties are given (YtfbolaoobodmoaaGreatDoorTie.lean); close each card by the builder's one call (the guide's Derived/Test/ToyasCard.lean, 'card_holds'). Laid BY PROGRAM, IN A SANDBOX (cutbox-door.mjs). By AI agents, Wed Nov 11 2026. No macro, syntax, notation, axiom, sorry.
-/
import Derived.Test.YtfbolaoobodmoaaGreatDoorRows
import GoSem.ClaimSeven
namespace Go.Proofs.YtfbolaoobodmoaaGreatDoor
namespace Rows

/-- THE TIED CARD OF 'laws.FnPlaced'. -/
def fnPlacedCard : Claim7 := { stood := { row := fnPlacedRow, standIns := [], harness := (true, "cc0e1787c4be41972c4cd93e90287c1a04d96c73d8a55174ec62f57a7995a798"), looks := false }, kinds := [], alts := [], laidByText := true, laidKinds := [.data, .pinned], laidTests := true, laidLooks := .later }
def FnPlacedCardSaid : Prop := Claim7.holds Tryz.pinned (.plain (OpenSpec.ofChange fnPlacedSpec)) fnPlacedCard

/-- THE SECOND FORM's CARD OF 'laws.FnPlaced'. -/
def fnPlacedUptoCard : Claim7 := { stood := { row := fnPlacedUptoRow, standIns := [], harness := (true, "cc0e1787c4be41972c4cd93e90287c1a04d96c73d8a55174ec62f57a7995a798"), looks := false }, kinds := [], alts := [], laidByText := true, laidKinds := [.data, .pinned], laidTests := true, laidLooks := .later }
def FnPlacedUptoCardSaid : Prop := Claim7.holds Tryz.pinned (.plain (OpenSpec.upto fnPlacedSpec)) fnPlacedUptoCard
end Rows
end Go.Proofs.YtfbolaoobodmoaaGreatDoor
