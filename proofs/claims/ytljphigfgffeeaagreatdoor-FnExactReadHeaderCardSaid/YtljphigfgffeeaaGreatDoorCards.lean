/-
  DERIVED. GIVEN WITH THE SEED: THE CARDS: each row of YtljphigfgffeeaaGreatDoorRows.lean that lists a variable, with what it lists TIED to the program's text (the seventh form; the later family's looks); each row that meets fmt, with fmt's text TOLD by the authors' own Lean function (tested against real Go, not proved from fmt's source: count such statements apart). THE CARD IS WHAT COUNTS. Prove the row's statement (the work); the ties are given (YtljphigfgffeeaaGreatDoorTie.lean); close each card by the builder's one call (the guide's Derived/Test/ToyasCard.lean, 'card_holds'). Laid BY PROGRAM, IN A SANDBOX (cutbox-door.mjs). By AI agents, Wed Nov 11 2026. No macro, syntax, notation, axiom, sorry.
-/
import Derived.Test.YtljphigfgffeeaaGreatDoorRows
import GoSem.ClaimSeven
namespace Go.Proofs.YtljphigfgffeeaaGreatDoor
namespace Rows

/-- THE TIED CARD OF 'laws.FnExactHeaderBlocks'. -/
def fnExactHeaderBlocksCard : Claim7 := { stood := { row := fnExactHeaderBlocksRow, standIns := [], harness := (true, "d507c99d6f14bee755b996b985562debe8542f1af00c8753860e9dfa8f630fd8"), looks := false }, kinds := [], alts := [], laidByText := true, laidKinds := [.data, .pinned], laidTests := true, laidLooks := .later }
def FnExactHeaderBlocksCardSaid : Prop := Claim7.holds Tryz.pinned (.plain (OpenSpec.ofChange fnExactHeaderBlocksSpec)) fnExactHeaderBlocksCard

/-- THE TIED CARD OF 'laws.FnExactReadHeader'. -/
def fnExactReadHeaderCard : Claim7 := { stood := { row := fnExactReadHeaderRow, standIns := [], harness := (true, "d507c99d6f14bee755b996b985562debe8542f1af00c8753860e9dfa8f630fd8"), looks := false }, kinds := [], alts := [], laidByText := true, laidKinds := [.data, .pinned], laidTests := true, laidLooks := .later }
def FnExactReadHeaderCardSaid : Prop := Claim7.holds Tryz.pinned (.plain (OpenSpec.ofChange fnExactReadHeaderSpec)) fnExactReadHeaderCard

/-- THE TIED CARD OF 'laws.FnExactFreeHeader'. -/
def fnExactFreeHeaderCard : Claim7 := { stood := { row := fnExactFreeHeaderRow, standIns := [], harness := (true, "d507c99d6f14bee755b996b985562debe8542f1af00c8753860e9dfa8f630fd8"), looks := false }, kinds := [], alts := [], laidByText := true, laidKinds := [.data, .pinned], laidTests := true, laidLooks := .later }
def FnExactFreeHeaderCardSaid : Prop := Claim7.holds Tryz.pinned (.plain (OpenSpec.ofChange fnExactFreeHeaderSpec)) fnExactFreeHeaderCard

/-- THE SECOND FORM's CARD OF 'laws.FnExactHeaderBlocks'. -/
def fnExactHeaderBlocksUptoCard : Claim7 := { stood := { row := fnExactHeaderBlocksUptoRow, standIns := [], harness := (true, "d507c99d6f14bee755b996b985562debe8542f1af00c8753860e9dfa8f630fd8"), looks := false }, kinds := [], alts := [], laidByText := true, laidKinds := [.data, .pinned], laidTests := true, laidLooks := .later }
def FnExactHeaderBlocksUptoCardSaid : Prop := Claim7.holds Tryz.pinned (.plain (OpenSpec.upto fnExactHeaderBlocksSpec)) fnExactHeaderBlocksUptoCard

/-- THE SECOND FORM's CARD OF 'laws.FnExactReadHeader'. -/
def fnExactReadHeaderUptoCard : Claim7 := { stood := { row := fnExactReadHeaderUptoRow, standIns := [], harness := (true, "d507c99d6f14bee755b996b985562debe8542f1af00c8753860e9dfa8f630fd8"), looks := false }, kinds := [], alts := [], laidByText := true, laidKinds := [.data, .pinned], laidTests := true, laidLooks := .later }
def FnExactReadHeaderUptoCardSaid : Prop := Claim7.holds Tryz.pinned (.plain (OpenSpec.upto fnExactReadHeaderSpec)) fnExactReadHeaderUptoCard

/-- THE SECOND FORM's CARD OF 'laws.FnExactFreeHeader'. -/
def fnExactFreeHeaderUptoCard : Claim7 := { stood := { row := fnExactFreeHeaderUptoRow, standIns := [], harness := (true, "d507c99d6f14bee755b996b985562debe8542f1af00c8753860e9dfa8f630fd8"), looks := false }, kinds := [], alts := [], laidByText := true, laidKinds := [.data, .pinned], laidTests := true, laidLooks := .later }
def FnExactFreeHeaderUptoCardSaid : Prop := Claim7.holds Tryz.pinned (.plain (OpenSpec.upto fnExactFreeHeaderSpec)) fnExactFreeHeaderUptoCard
end Rows
end Go.Proofs.YtljphigfgffeeaaGreatDoor
