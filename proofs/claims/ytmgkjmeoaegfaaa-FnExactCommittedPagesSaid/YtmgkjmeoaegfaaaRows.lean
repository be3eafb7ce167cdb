/-
  No cell of these rows narrows 'for every input' (looked for: loops, veiled, ifaces, maps, wideKeys, modest, calm, conditions, laid).
  DERIVED. THE GIVEN ROWS OF THIS SEAT. 6 by the template 'for every input the law returns true; each argument reads behind the call as it read before'; 0 by the template 'total and deterministic' (their statements: YtmgkjmeoaegfaaaTotals.lean).
  GIVEN WITH THE SEED: the statements are not yours to turn. If you find one false, say at which input.
  Laid BY PROGRAM, IN A SANDBOX (cutbox-rows.mjs): the forced cells as the released guide's own fill.sh prints them over the translation a24273e33b2e5802… (all of the seat's roots in one cut). By AI agents, Wed Nov 11 2026. No macro, syntax, notation, axiom, sorry.
-/
import Derived.Test.YtmgkjmeoaegfaaaChecked
import GoSem.Claim
import GoSem.ClaimJoined
import GoSem.ClaimMapViews
import Derived.JoinedTies
import Derived.KernelRfl
namespace Go.Proofs.Ytmgkjmeoaegfaaa
/- THE CELL 'sum', in the pinned program and in every row, IS THE sha256 OF THE DUMP (.gsa) THAT YtmgkjmeoaegfaaaProg.lean LOADS. Nothing in Lean hashes anything: it is a label: what it is worth is what the hold of that sum in a sandbox is worth. -/
noncomputable def Try.pinned : Pinned := { name := "ytmgkjmeoaegfaaa", sum := "a24273e33b2e5802b1309d65c79eb997977cc4f9f9a11d350b1b0663a6c2d223", checked := Try.checked }
namespace Rows
def none {H : Type} : Left H := { results := [], args := [] }

/-- 'laws.FnExactChooseSuper': WHATEVER THE INPUT: true; the input reads as it did. -/
def fnExactChooseSuperSpec : ChangeSpec := { name := "fnExactChooseSuper", fn := fun _ => fun
  | [d] => { results := [.lit (.bool true)], args := [d] }
  | _ => none }
def fnExactChooseSuperRow : OpenClaim := { program := "ytmgkjmeoaegfaaa", sum := "a24273e33b2e5802b1309d65c79eb997977cc4f9f9a11d350b1b0663a6c2d223", func := "loop.example/g00904/laws.FnExactChooseSuper", spec := "fnExactChooseSuper", inPlace := ["internal/abi.NoEscape", "internal/bytealg.MakeNoZero"], unfollowed := true, recurses := true, apart := false }
def FnExactChooseSuperSaid : Prop := fnExactChooseSuperRow.holds Try.pinned (OpenSpec.ofChange fnExactChooseSuperSpec)

/-- ITS FALSE NEIGHBOUR: 'it returns false'. Refute it at one input. -/
def fnExactChooseSuperWrong : ChangeSpec := { name := "fnExactChooseSuper", fn := fun _ => fun
  | [d] => { results := [.lit (.bool false)], args := [d] }
  | _ => none }
def FnExactChooseSuperWrongFalsely : Prop := fnExactChooseSuperRow.holds Try.pinned (OpenSpec.ofChange fnExactChooseSuperWrong)

/-- 'laws.FnExactDiscard': WHATEVER THE INPUT: true; the input reads as it did. -/
def fnExactDiscardSpec : ChangeSpec := { name := "fnExactDiscard", fn := fun _ => fun
  | [d] => { results := [.lit (.bool true)], args := [d] }
  | _ => none }
def fnExactDiscardRow : OpenClaim := { program := "ytmgkjmeoaegfaaa", sum := "a24273e33b2e5802b1309d65c79eb997977cc4f9f9a11d350b1b0663a6c2d223", func := "loop.example/g00904/laws.FnExactDiscard", spec := "fnExactDiscard", unfollowed := true, recurses := true, apart := false }
def FnExactDiscardSaid : Prop := fnExactDiscardRow.holds Try.pinned (OpenSpec.ofChange fnExactDiscardSpec)

/-- ITS FALSE NEIGHBOUR: 'it returns false'. Refute it at one input. -/
def fnExactDiscardWrong : ChangeSpec := { name := "fnExactDiscard", fn := fun _ => fun
  | [d] => { results := [.lit (.bool false)], args := [d] }
  | _ => none }
def FnExactDiscardWrongFalsely : Prop := fnExactDiscardRow.holds Try.pinned (OpenSpec.ofChange fnExactDiscardWrong)

/-- 'laws.FnExactWriteSuper': WHATEVER THE INPUT: true; the input reads as it did. -/
def fnExactWriteSuperSpec : ChangeSpec := { name := "fnExactWriteSuper", fn := fun _ => fun
  | [d1, d2] => { results := [.lit (.bool true)], args := [d1, d2] }
  | _ => none }
def fnExactWriteSuperRow : OpenClaim := { program := "ytmgkjmeoaegfaaa", sum := "a24273e33b2e5802b1309d65c79eb997977cc4f9f9a11d350b1b0663a6c2d223", func := "loop.example/g00904/laws.FnExactWriteSuper", spec := "fnExactWriteSuper", inPlace := ["internal/abi.NoEscape", "internal/bytealg.MakeNoZero"], unfollowed := true, recurses := true, apart := false }
def FnExactWriteSuperSaid : Prop := fnExactWriteSuperRow.holds Try.pinned (OpenSpec.ofChange fnExactWriteSuperSpec)

/-- ITS FALSE NEIGHBOUR: 'it returns false'. Refute it at one input. -/
def fnExactWriteSuperWrong : ChangeSpec := { name := "fnExactWriteSuper", fn := fun _ => fun
  | [d1, d2] => { results := [.lit (.bool false)], args := [d1, d2] }
  | _ => none }
def FnExactWriteSuperWrongFalsely : Prop := fnExactWriteSuperRow.holds Try.pinned (OpenSpec.ofChange fnExactWriteSuperWrong)

/-- 'laws.FnExactFreeCount': WHATEVER THE INPUT: true; the input reads as it did. -/
def fnExactFreeCountSpec : ChangeSpec := { name := "fnExactFreeCount", fn := fun _ => fun
  | [d] => { results := [.lit (.bool true)], args := [d] }
  | _ => none }
def fnExactFreeCountRow : OpenClaim := { program := "ytmgkjmeoaegfaaa", sum := "a24273e33b2e5802b1309d65c79eb997977cc4f9f9a11d350b1b0663a6c2d223", func := "loop.example/g00904/laws.FnExactFreeCount", spec := "fnExactFreeCount", unfollowed := true, recurses := true, apart := false }
def FnExactFreeCountSaid : Prop := fnExactFreeCountRow.holds Try.pinned (OpenSpec.ofChange fnExactFreeCountSpec)

/-- ITS FALSE NEIGHBOUR: 'it returns false'. Refute it at one input. -/
def fnExactFreeCountWrong : ChangeSpec := { name := "fnExactFreeCount", fn := fun _ => fun
  | [d] => { results := [.lit (.bool false)], args := [d] }
  | _ => none }
def FnExactFreeCountWrongFalsely : Prop := fnExactFreeCountRow.holds Try.pinned (OpenSpec.ofChange fnExactFreeCountWrong)

/-- 'laws.FnExactCommittedPages': WHATEVER THE INPUT: true; the input reads as it did. -/
def fnExactCommittedPagesSpec : ChangeSpec := { name := "fnExactCommittedPages", fn := fun _ => fun
  | [d] => { results := [.lit (.bool true)], args := [d] }
  | _ => none }
def fnExactCommittedPagesRow : OpenClaim := { program := "ytmgkjmeoaegfaaa", sum := "a24273e33b2e5802b1309d65c79eb997977cc4f9f9a11d350b1b0663a6c2d223", func := "loop.example/g00904/laws.FnExactCommittedPages", spec := "fnExactCommittedPages", unfollowed := true, recurses := true, apart := false }
def FnExactCommittedPagesSaid : Prop := fnExactCommittedPagesRow.holds Try.pinned (OpenSpec.ofChange fnExactCommittedPagesSpec)

/-- ITS FALSE NEIGHBOUR: 'it returns false'. Refute it at one input. -/
def fnExactCommittedPagesWrong : ChangeSpec := { name := "fnExactCommittedPages", fn := fun _ => fun
  | [d] => { results := [.lit (.bool false)], args := [d] }
  | _ => none }
def FnExactCommittedPagesWrongFalsely : Prop := fnExactCommittedPagesRow.holds Try.pinned (OpenSpec.ofChange fnExactCommittedPagesWrong)

/-- 'laws.FnExactReadRun': WHATEVER THE INPUT: true; the input reads as it did. -/
def fnExactReadRunSpec : ChangeSpec := { name := "fnExactReadRun", fn := fun _ => fun
  | [d1, d2, d3] => { results := [.lit (.bool true)], args := [d1, d2, d3] }
  | _ => none }
def fnExactReadRunRow : OpenClaim := { program := "ytmgkjmeoaegfaaa", sum := "a24273e33b2e5802b1309d65c79eb997977cc4f9f9a11d350b1b0663a6c2d223", func := "loop.example/g00904/laws.FnExactReadRun", spec := "fnExactReadRun", inPlace := ["internal/abi.NoEscape"], unfollowed := true, recurses := true, apart := false }
def FnExactReadRunSaid : Prop := fnExactReadRunRow.holds Try.pinned (OpenSpec.ofChange fnExactReadRunSpec)

/-- ITS FALSE NEIGHBOUR: 'it returns false'. Refute it at one input. -/
def fnExactReadRunWrong : ChangeSpec := { name := "fnExactReadRun", fn := fun _ => fun
  | [d1, d2, d3] => { results := [.lit (.bool false)], args := [d1, d2, d3] }
  | _ => none }
def FnExactReadRunWrongFalsely : Prop := fnExactReadRunRow.holds Try.pinned (OpenSpec.ofChange fnExactReadRunWrong)

/- THE SECOND FORM. 'bulk': how many values and letters a reading holds, each counted each time it is reached (what is shared counts as often as it is met; a slice's spare places count too). A statement '..UptoSaid' is the law's where the arguments, and the package variables that the reading takes, are together of bulk at most 1048576: NARROWER than '..Said'. Prove '..Said' where nothing that the law and all that it calls make is longer than what came in: it says more and counts as full. Else prove '..UptoSaid'. A law counts once. -/
mutual
def uptoBulk {H : Type} : DataW H → Nat
  | .lit (.string bytes) => bytes.length + 1
  | .lit _ => 1
  | .nil => 1
  | .ptr d => uptoBulk d + 1
  | .slice elems spare => uptoBulkAll elems + uptoBulkAll spare + 1
  | .agg parts => uptoBulkAll parts + 1
  | .iface _ d => uptoBulk d + 1
  | .map entries => uptoBulkEntries entries + 1
  | .held _ => 1
def uptoBulkAll {H : Type} : List (DataW H) → Nat
  | [] => 0
  | d :: r => uptoBulk d + uptoBulkAll r
def uptoBulkEntries {H : Type} : List (Lit × DataW H) → Nat
  | [] => 0
  | x :: r => uptoBulkEntry x + uptoBulkEntries r
def uptoBulkEntry {H : Type} : Lit × DataW H → Nat
  | (.string bytes, d) => bytes.length + uptoBulk d + 1
  | (_, d) => uptoBulk d + 1
 end
def uptoSmall : (H : Type) → List (DataW H) → Bool := fun _ ds => decide (uptoBulkAll ds ≤ 1048576)
def OpenSpec.upto (s : _root_.Go.ChangeSpec) : _root_.Go.OpenSpec := { _root_.Go.OpenSpec.ofChange s with cond := some uptoSmall }

/-- 'laws.FnExactChooseSuper', WHERE WHAT IT READS IS OF BULK AT MOST 1048576: true; the input reads as it did. -/
def fnExactChooseSuperUptoRow : OpenClaim := { program := "ytmgkjmeoaegfaaa", sum := "a24273e33b2e5802b1309d65c79eb997977cc4f9f9a11d350b1b0663a6c2d223", func := "loop.example/g00904/laws.FnExactChooseSuper", spec := "fnExactChooseSuper", inPlace := ["internal/abi.NoEscape", "internal/bytealg.MakeNoZero"], unfollowed := true, recurses := true, apart := false, narrowed := true }
def FnExactChooseSuperUptoSaid : Prop := fnExactChooseSuperUptoRow.holds Try.pinned (OpenSpec.upto fnExactChooseSuperSpec)

/-- 'laws.FnExactDiscard', WHERE WHAT IT READS IS OF BULK AT MOST 1048576: true; the input reads as it did. -/
def fnExactDiscardUptoRow : OpenClaim := { program := "ytmgkjmeoaegfaaa", sum := "a24273e33b2e5802b1309d65c79eb997977cc4f9f9a11d350b1b0663a6c2d223", func := "loop.example/g00904/laws.FnExactDiscard", spec := "fnExactDiscard", unfollowed := true, recurses := true, apart := false, narrowed := true }
def FnExactDiscardUptoSaid : Prop := fnExactDiscardUptoRow.holds Try.pinned (OpenSpec.upto fnExactDiscardSpec)

/-- 'laws.FnExactWriteSuper', WHERE WHAT IT READS IS OF BULK AT MOST 1048576: true; the input reads as it did. -/
def fnExactWriteSuperUptoRow : OpenClaim := { program := "ytmgkjmeoaegfaaa", sum := "a24273e33b2e5802b1309d65c79eb997977cc4f9f9a11d350b1b0663a6c2d223", func := "loop.example/g00904/laws.FnExactWriteSuper", spec := "fnExactWriteSuper", inPlace := ["internal/abi.NoEscape", "internal/bytealg.MakeNoZero"], unfollowed := true, recurses := true, apart := false, narrowed := true }
def FnExactWriteSuperUptoSaid : Prop := fnExactWriteSuperUptoRow.holds Try.pinned (OpenSpec.upto fnExactWriteSuperSpec)

/-- 'laws.FnExactFreeCount', WHERE WHAT IT READS IS OF BULK AT MOST 1048576: true; the input reads as it did. -/
def fnExactFreeCountUptoRow : OpenClaim := { program := "ytmgkjmeoaegfaaa", sum := "a24273e33b2e5802b1309d65c79eb997977cc4f9f9a11d350b1b0663a6c2d223", func := "loop.example/g00904/laws.FnExactFreeCount", spec := "fnExactFreeCount", unfollowed := true, recurses := true, apart := false, narrowed := true }
def FnExactFreeCountUptoSaid : Prop := fnExactFreeCountUptoRow.holds Try.pinned (OpenSpec.upto fnExactFreeCountSpec)

/-- 'laws.FnExactCommittedPages', WHERE WHAT IT READS IS OF BULK AT MOST 1048576: true; the input reads as it did. -/
def fnExactCommittedPagesUptoRow : OpenClaim := { program := "ytmgkjmeoaegfaaa", sum := "a24273e33b2e5802b1309d65c79eb997977cc4f9f9a11d350b1b0663a6c2d223", func := "loop.example/g00904/laws.FnExactCommittedPages", spec := "fnExactCommittedPages", unfollowed := true, recurses := true, apart := false, narrowed := true }
def FnExactCommittedPagesUptoSaid : Prop := fnExactCommittedPagesUptoRow.holds Try.pinned (OpenSpec.upto fnExactCommittedPagesSpec)

/-- 'laws.FnExactReadRun', WHERE WHAT IT READS IS OF BULK AT MOST 1048576: true; the input reads as it did. -/
def fnExactReadRunUptoRow : OpenClaim := { program := "ytmgkjmeoaegfaaa", sum := "a24273e33b2e5802b1309d65c79eb997977cc4f9f9a11d350b1b0663a6c2d223", func := "loop.example/g00904/laws.FnExactReadRun", spec := "fnExactReadRun", inPlace := ["internal/abi.NoEscape"], unfollowed := true, recurses := true, apart := false, narrowed := true }
def FnExactReadRunUptoSaid : Prop := fnExactReadRunUptoRow.holds Try.pinned (OpenSpec.upto fnExactReadRunSpec)

end Rows
end Go.Proofs.Ytmgkjmeoaegfaaa
