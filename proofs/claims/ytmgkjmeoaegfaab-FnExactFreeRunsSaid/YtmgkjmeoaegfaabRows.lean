/-
  No cell of these rows narrows 'for every input' (looked for: loops, veiled, ifaces, maps, wideKeys, modest, calm, conditions, laid).
  DERIVED. THE GIVEN ROWS OF THIS SEAT. 3 by the template 'for every input the law returns true; each argument reads behind the call as it read before'; 0 by the template 'total and deterministic' (their statements: YtmgkjmeoaegfaabTotals.lean).
  GIVEN WITH THE SEED: the statements are not yours to turn. If you find one false, say at which input.
  Laid BY PROGRAM, IN A SANDBOX (cutbox-rows.mjs): the forced cells as the released guide's own fill.sh prints them over the translation 7f87559743ed667b… (all of the seat's roots in one cut). By AI agents, Wed Nov 11 2026. No macro, syntax, notation, axiom, sorry.
-/
import Derived.Test.YtmgkjmeoaegfaabChecked
import GoSem.Claim
import GoSem.ClaimJoined
import GoSem.ClaimMapViews
import Derived.JoinedTies
import Derived.KernelRfl
namespace Go.Proofs.Ytmgkjmeoaegfaab
/- THE CELL 'sum', in the pinned program and in every row, IS THE sha256 OF THE DUMP (.gsa) THAT YtmgkjmeoaegfaabProg.lean LOADS. Nothing in Lean hashes anything: it is a label: what it is worth is what the hold of that sum in a sandbox is worth. -/
noncomputable def Try.pinned : Pinned := { name := "ytmgkjmeoaegfaab", sum := "7f87559743ed667b40b676bdb5cf20618d01154185754449a7790bb8b4c91f6e", checked := Try.checked }
namespace Rows
def none {H : Type} : Left H := { results := [], args := [] }

/-- 'laws.FnSupers': WHATEVER THE INPUT: true; the input reads as it did. -/
def fnSupersSpec : ChangeSpec := { name := "fnSupers", fn := fun _ => fun
  | [d1, d2] => { results := [.lit (.bool true)], args := [d1, d2] }
  | _ => none }
def fnSupersRow : OpenClaim := { program := "ytmgkjmeoaegfaab", sum := "7f87559743ed667b40b676bdb5cf20618d01154185754449a7790bb8b4c91f6e", func := "loop.example/g00904/laws.FnSupers", spec := "fnSupers", inPlace := ["internal/abi.NoEscape", "internal/bytealg.MakeNoZero"], unfollowed := true, recurses := true, apart := false }
def FnSupersSaid : Prop := fnSupersRow.holds Try.pinned (OpenSpec.ofChange fnSupersSpec)

/-- ITS FALSE NEIGHBOUR: 'it returns false'. Refute it at one input. -/
def fnSupersWrong : ChangeSpec := { name := "fnSupers", fn := fun _ => fun
  | [d1, d2] => { results := [.lit (.bool false)], args := [d1, d2] }
  | _ => none }
def FnSupersWrongFalsely : Prop := fnSupersRow.holds Try.pinned (OpenSpec.ofChange fnSupersWrong)

/-- 'laws.FnExactSync': WHATEVER THE INPUT: true; the input reads as it did. -/
def fnExactSyncSpec : ChangeSpec := { name := "fnExactSync", fn := fun _ => fun
  | [d] => { results := [.lit (.bool true)], args := [d] }
  | _ => none }
def fnExactSyncRow : OpenClaim := { program := "ytmgkjmeoaegfaab", sum := "7f87559743ed667b40b676bdb5cf20618d01154185754449a7790bb8b4c91f6e", func := "loop.example/g00904/laws.FnExactSync", spec := "fnExactSync", unfollowed := true, recurses := true, apart := false }
def FnExactSyncSaid : Prop := fnExactSyncRow.holds Try.pinned (OpenSpec.ofChange fnExactSyncSpec)

/-- ITS FALSE NEIGHBOUR: 'it returns false'. Refute it at one input. -/
def fnExactSyncWrong : ChangeSpec := { name := "fnExactSync", fn := fun _ => fun
  | [d] => { results := [.lit (.bool false)], args := [d] }
  | _ => none }
def FnExactSyncWrongFalsely : Prop := fnExactSyncRow.holds Try.pinned (OpenSpec.ofChange fnExactSyncWrong)

/-- 'laws.FnExactFreeRuns': WHATEVER THE INPUT: true; the input reads as it did. -/
def fnExactFreeRunsSpec : ChangeSpec := { name := "fnExactFreeRuns", fn := fun _ => fun
  | [d] => { results := [.lit (.bool true)], args := [d] }
  | _ => none }
def fnExactFreeRunsRow : OpenClaim := { program := "ytmgkjmeoaegfaab", sum := "7f87559743ed667b40b676bdb5cf20618d01154185754449a7790bb8b4c91f6e", func := "loop.example/g00904/laws.FnExactFreeRuns", spec := "fnExactFreeRuns", unfollowed := true, recurses := true, apart := false }
def FnExactFreeRunsSaid : Prop := fnExactFreeRunsRow.holds Try.pinned (OpenSpec.ofChange fnExactFreeRunsSpec)

/-- ITS FALSE NEIGHBOUR: 'it returns false'. Refute it at one input. -/
def fnExactFreeRunsWrong : ChangeSpec := { name := "fnExactFreeRuns", fn := fun _ => fun
  | [d] => { results := [.lit (.bool false)], args := [d] }
  | _ => none }
def FnExactFreeRunsWrongFalsely : Prop := fnExactFreeRunsRow.holds Try.pinned (OpenSpec.ofChange fnExactFreeRunsWrong)

/- THE SECOND FORM. 'bulk': how many values and letters a reading holds, each counted each time it is reached (what is shared counts as often as it is met; a slice's spare places count too). A statement '..UptoSaid' is the law's where the arguments, and the package variables that the reading takes, are together of bulk at most 1048576: NARROWER than '..Said'. Prove '..Said' where nothing that the law and all that it calls make is longer than what came in: it says more and counts as full. Else prove '..UptoSaid'. A law counts once. -/
mutual
def uptoBulk {H : Type} : DataW H → Nat
  | .lit (.string bytes) => bytes.length + 1
  | .lit _ => 1
  | .nil => 1
  | .ptr d => uptoBulk d + 1
  | .slice elems spare => uptoBulkAll elems + uptoBulkAll spare + 1
  | .agg parts => uptoBulkAll parts + 1
  | .iface _ d => uptoBulk d + 1
  | .map entries => uptoBulkEntries entries + 1
  | .held _ => 1
def uptoBulkAll {H : Type} : List (DataW H) → Nat
  | [] => 0
  | d :: r => uptoBulk d + uptoBulkAll r
def uptoBulkEntries {H : Type} : List (Lit × DataW H) → Nat
  | [] => 0
  | x :: r => uptoBulkEntry x + uptoBulkEntries r
def uptoBulkEntry {H : Type} : Lit × DataW H → Nat
  | (.string bytes, d) => bytes.length + uptoBulk d + 1
  | (_, d) => uptoBulk d + 1
 end
def uptoSmall : (H : Type) → List (DataW H) → Bool := fun _ ds => decide (uptoBulkAll ds ≤ 1048576)
def OpenSpec.upto (s : _root_.Go.ChangeSpec) : _root_.Go.OpenSpec := { _root_.Go.OpenSpec.ofChange s with cond := some uptoSmall }

/-- 'laws.FnSupers', WHERE WHAT IT READS IS OF BULK AT MOST 1048576: true; the input reads as it did. -/
def fnSupersUptoRow : OpenClaim := { program := "ytmgkjmeoaegfaab", sum := "7f87559743ed667b40b676bdb5cf20618d01154185754449a7790bb8b4c91f6e", func := "loop.example/g00904/laws.FnSupers", spec := "fnSupers", inPlace := ["internal/abi.NoEscape", "internal/bytealg.MakeNoZero"], unfollowed := true, recurses := true, apart := false, narrowed := true }
def FnSupersUptoSaid : Prop := fnSupersUptoRow.holds Try.pinned (OpenSpec.upto fnSupersSpec)

/-- 'laws.FnExactSync', WHERE WHAT IT READS IS OF BULK AT MOST 1048576: true; the input reads as it did. -/
def fnExactSyncUptoRow : OpenClaim := { program := "ytmgkjmeoaegfaab", sum := "7f87559743ed667b40b676bdb5cf20618d01154185754449a7790bb8b4c91f6e", func := "loop.example/g00904/laws.FnExactSync", spec := "fnExactSync", unfollowed := true, recurses := true, apart := false, narrowed := true }
def FnExactSyncUptoSaid : Prop := fnExactSyncUptoRow.holds Try.pinned (OpenSpec.upto fnExactSyncSpec)

/-- 'laws.FnExactFreeRuns', WHERE WHAT IT READS IS OF BULK AT MOST 1048576: true; the input reads as it did. -/
def fnExactFreeRunsUptoRow : OpenClaim := { program := "ytmgkjmeoaegfaab", sum := "7f87559743ed667b40b676bdb5cf20618d01154185754449a7790bb8b4c91f6e", func := "loop.example/g00904/laws.FnExactFreeRuns", spec := "fnExactFreeRuns", unfollowed := true, recurses := true, apart := false, narrowed := true }
def FnExactFreeRunsUptoSaid : Prop := fnExactFreeRunsUptoRow.holds Try.pinned (OpenSpec.upto fnExactFreeRunsSpec)

end Rows
end Go.Proofs.Ytmgkjmeoaegfaab
