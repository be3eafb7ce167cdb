/-
  DERIVED. GIVEN WITH THE SEED: THE CARDS: each row of YtcibapigoeknmaaGreatDoorRows.lean that lists a variable, with what it lists TIED to the program's text (the seventh form; the later family's looks); each row that meets fmt, with fmt's text TOLD by the authors' own Lean function (tested against real Go, not proved from fmt's source: count such statements apart). THE CARD IS WHAT COUNTS. Prove the row's statement (the work); the ties are given (YtcibapigoeknmaaGreatDoorTie.lean); close each card by the builder's one call (the guide's Derived/Test/ToyasCard.lean, 'card_holds'). Laid BY PROGRAM, IN A SANDBOX (cutbox-door.mjs). By AI agents, Wed Nov 11 2026. No macro, syntax, notation, axiom, sorry.
-/
import Derived.Test.YtcibapigoeknmaaGreatDoorRows
import GoSem.ClaimSeven
namespace Go.Proofs.YtcibapigoeknmaaGreatDoor
namespace Rows

/-- THE TIED CARD OF 'laws.FnExactCheckpoint'. -/
def fnExactCheckpointCard : Claim7 := { stood := { row := fnExactCheckpointRow, standIns := [], harness := (true, "9abcaa8e344c8e24d70b14aca0b4357c0321c56701f6bfb8276a970138599bba"), looks := false }, kinds := [], alts := [], laidByText := true, laidKinds := [.data, .pinned], laidTests := true, laidLooks := .later }
def FnExactCheckpointCardSaid : Prop := Claim7.holds Tryz.pinned (.plain (OpenSpec.ofChange fnExactCheckpointSpec)) fnExactCheckpointCard

/-- THE SECOND FORM's CARD OF 'laws.FnExactCheckpoint'. -/
def fnExactCheckpointUptoCard : Claim7 := { stood := { row := fnExactCheckpointUptoRow, standIns := [], harness := (true, "9abcaa8e344c8e24d70b14aca0b4357c0321c56701f6bfb8276a970138599bba"), looks := false }, kinds := [], alts := [], laidByText := true, laidKinds := [.data, .pinned], laidTests := true, laidLooks := .later }
def FnExactCheckpointUptoCardSaid : Prop := Claim7.holds Tryz.pinned (.plain (OpenSpec.upto fnExactCheckpointSpec)) fnExactCheckpointUptoCard
end Rows
end Go.Proofs.YtcibapigoeknmaaGreatDoor
