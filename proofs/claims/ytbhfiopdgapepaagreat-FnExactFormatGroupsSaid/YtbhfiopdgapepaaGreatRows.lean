/-
  No cell of these rows narrows 'for every input' (looked for: loops, veiled, ifaces, maps, wideKeys, modest, calm, conditions, laid).
  DERIVED. THE GIVEN ROWS OF THIS SEAT. 4 by the template 'for every input the law returns true; each argument reads behind the call as it read before'; 0 by the template 'total and deterministic' (their statements: YtbhfiopdgapepaaGreatTotals.lean).
  GIVEN WITH THE SEED: the statements are not yours to turn. If you find one false, say at which input.
  Laid BY PROGRAM, IN A SANDBOX (cutbox-rows.mjs): the forced cells as the released guide's own fill.sh prints them over the translation 1ec51b74e550b201… (all of the seat's roots in one cut). By AI agents, Wed Nov 11 2026. No macro, syntax, notation, axiom, sorry.
-/
import Derived.Test.YtbhfiopdgapepaaGreatChecked
import GoSem.Claim
import GoSem.ClaimJoined
import GoSem.ClaimMapViews
import Derived.JoinedTies
import Derived.KernelRfl
namespace Go.Proofs.YtbhfiopdgapepaaGreat
/- THE CELL 'sum', in the pinned program and in every row, IS THE sha256 OF THE DUMP (.gsa) THAT YtbhfiopdgapepaaGreatProg.lean LOADS. Nothing in Lean hashes anything: it is a label: what it is worth is what the hold of that sum in a sandbox is worth. -/
noncomputable def Tryz.pinned : Pinned := { name := "ytbhfiopdgapepaagreat", sum := "1ec51b74e550b20110701ea0408b0f10c55bf30dda8278f2f6d1a4b5ce5472bd", checked := Tryz.checked }
namespace Rows
def none {H : Type} : Left H := { results := [], args := [] }

/-- 'laws.FnExactFormatGroups': WHATEVER THE INPUT: true; the input reads as it did. -/
def fnExactFormatGroupsSpec : ChangeSpec := { name := "fnExactFormatGroups", fn := fun _ => fun
  | [d] => { results := [.lit (.bool true)], args := [d] }
  | _ => none }
def fnExactFormatGroupsRow : OpenClaim := { program := "ytbhfiopdgapepaagreat", sum := "1ec51b74e550b20110701ea0408b0f10c55bf30dda8278f2f6d1a4b5ce5472bd", func := "loop.example/g00904/laws.FnExactFormatGroups", spec := "fnExactFormatGroups", inPlace := ["internal/abi.NoEscape", "slices.overlaps[loop.example/g00904/impl.Page]", "internal/bytealg.MakeNoZero"], unfollowed := true, recurses := true, apart := false }
def FnExactFormatGroupsSaid : Prop := fnExactFormatGroupsRow.holds Tryz.pinned (OpenSpec.ofChange fnExactFormatGroupsSpec)

/-- ITS FALSE NEIGHBOUR: 'it returns false'. Refute it at one input. -/
def fnExactFormatGroupsWrong : ChangeSpec := { name := "fnExactFormatGroups", fn := fun _ => fun
  | [d] => { results := [.lit (.bool false)], args := [d] }
  | _ => none }
def FnExactFormatGroupsWrongFalsely : Prop := fnExactFormatGroupsRow.holds Tryz.pinned (OpenSpec.ofChange fnExactFormatGroupsWrong)

/-- 'laws.FnSpaceRuns': WHATEVER THE INPUT: true; the input reads as it did. -/
def fnSpaceRunsSpec : ChangeSpec := { name := "fnSpaceRuns", fn := fun _ => fun
  | [d] => { results := [.lit (.bool true)], args := [d] }
  | _ => none }
def fnSpaceRunsRow : OpenClaim := { program := "ytbhfiopdgapepaagreat", sum := "1ec51b74e550b20110701ea0408b0f10c55bf30dda8278f2f6d1a4b5ce5472bd", func := "loop.example/g00904/laws.FnSpaceRuns", spec := "fnSpaceRuns", inPlace := ["internal/abi.NoEscape", "internal/bytealg.MakeNoZero", "slices.overlaps[loop.example/g00904/impl.Page]"], unfollowed := true, recurses := true, apart := false }
def FnSpaceRunsSaid : Prop := fnSpaceRunsRow.holds Tryz.pinned (OpenSpec.ofChange fnSpaceRunsSpec)

/-- ITS FALSE NEIGHBOUR: 'it returns false'. Refute it at one input. -/
def fnSpaceRunsWrong : ChangeSpec := { name := "fnSpaceRuns", fn := fun _ => fun
  | [d] => { results := [.lit (.bool false)], args := [d] }
  | _ => none }
def FnSpaceRunsWrongFalsely : Prop := fnSpaceRunsRow.holds Tryz.pinned (OpenSpec.ofChange fnSpaceRunsWrong)

/-- 'laws.FnSpace': WHATEVER THE INPUT: true; the input reads as it did. -/
def fnSpaceSpec : ChangeSpec := { name := "fnSpace", fn := fun _ => fun
  | [d] => { results := [.lit (.bool true)], args := [d] }
  | _ => none }
def fnSpaceRow : OpenClaim := { program := "ytbhfiopdgapepaagreat", sum := "1ec51b74e550b20110701ea0408b0f10c55bf30dda8278f2f6d1a4b5ce5472bd", func := "loop.example/g00904/laws.FnSpace", spec := "fnSpace", inPlace := ["slices.overlaps[loop.example/g00904/impl.Page]"], unfollowed := true, recurses := true, apart := false }
def FnSpaceSaid : Prop := fnSpaceRow.holds Tryz.pinned (OpenSpec.ofChange fnSpaceSpec)

/-- ITS FALSE NEIGHBOUR: 'it returns false'. Refute it at one input. -/
def fnSpaceWrong : ChangeSpec := { name := "fnSpace", fn := fun _ => fun
  | [d] => { results := [.lit (.bool false)], args := [d] }
  | _ => none }
def FnSpaceWrongFalsely : Prop := fnSpaceRow.holds Tryz.pinned (OpenSpec.ofChange fnSpaceWrong)

/-- 'laws.FnFreeRuns': WHATEVER THE INPUT: true; the input reads as it did. -/
def fnFreeRunsSpec : ChangeSpec := { name := "fnFreeRuns", fn := fun _ => fun
  | [d1, d2] => { results := [.lit (.bool true)], args := [d1, d2] }
  | _ => none }
def fnFreeRunsRow : OpenClaim := { program := "ytbhfiopdgapepaagreat", sum := "1ec51b74e550b20110701ea0408b0f10c55bf30dda8278f2f6d1a4b5ce5472bd", func := "loop.example/g00904/laws.FnFreeRuns", spec := "fnFreeRuns", inPlace := ["slices.overlaps[loop.example/g00904/impl.Page]"], unfollowed := true, recurses := true, apart := false }
def FnFreeRunsSaid : Prop := fnFreeRunsRow.holds Tryz.pinned (OpenSpec.ofChange fnFreeRunsSpec)

/-- ITS FALSE NEIGHBOUR: 'it returns false'. Refute it at one input. -/
def fnFreeRunsWrong : ChangeSpec := { name := "fnFreeRuns", fn := fun _ => fun
  | [d1, d2] => { results := [.lit (.bool false)], args := [d1, d2] }
  | _ => none }
def FnFreeRunsWrongFalsely : Prop := fnFreeRunsRow.holds Tryz.pinned (OpenSpec.ofChange fnFreeRunsWrong)

/- THE SECOND FORM. 'bulk': how many values and letters a reading holds, each counted each time it is reached (what is shared counts as often as it is met; a slice's spare places count too). A statement '..UptoSaid' is the law's where the arguments, and the package variables that the reading takes, are together of bulk at most 1048576: NARROWER than '..Said'. Prove '..Said' where nothing that the law and all that it calls make is longer than what came in: it says more and counts as full. Else prove '..UptoSaid'. A law counts once. -/
mutual
def uptoBulk {H : Type} : DataW H → Nat
  | .lit (.string bytes) => bytes.length + 1
  | .lit _ => 1
  | .nil => 1
  | .ptr d => uptoBulk d + 1
  | .slice elems spare => uptoBulkAll elems + uptoBulkAll spare + 1
  | .agg parts => uptoBulkAll parts + 1
  | .iface _ d => uptoBulk d + 1
  | .map entries => uptoBulkEntries entries + 1
  | .held _ => 1
def uptoBulkAll {H : Type} : List (DataW H) → Nat
  | [] => 0
  | d :: r => uptoBulk d + uptoBulkAll r
def uptoBulkEntries {H : Type} : List (Lit × DataW H) → Nat
  | [] => 0
  | x :: r => uptoBulkEntry x + uptoBulkEntries r
def uptoBulkEntry {H : Type} : Lit × DataW H → Nat
  | (.string bytes, d) => bytes.length + uptoBulk d + 1
  | (_, d) => uptoBulk d + 1
 end
def uptoSmall : (H : Type) → List (DataW H) → Bool := fun _ ds => decide (uptoBulkAll ds ≤ 1048576)
def OpenSpec.upto (s : _root_.Go.ChangeSpec) : _root_.Go.OpenSpec := { _root_.Go.OpenSpec.ofChange s with cond := some uptoSmall }

/-- 'laws.FnExactFormatGroups', WHERE WHAT IT READS IS OF BULK AT MOST 1048576: true; the input reads as it did. -/
def fnExactFormatGroupsUptoRow : OpenClaim := { program := "ytbhfiopdgapepaagreat", sum := "1ec51b74e550b20110701ea0408b0f10c55bf30dda8278f2f6d1a4b5ce5472bd", func := "loop.example/g00904/laws.FnExactFormatGroups", spec := "fnExactFormatGroups", inPlace := ["internal/abi.NoEscape", "slices.overlaps[loop.example/g00904/impl.Page]", "internal/bytealg.MakeNoZero"], unfollowed := true, recurses := true, apart := false, narrowed := true }
def FnExactFormatGroupsUptoSaid : Prop := fnExactFormatGroupsUptoRow.holds Tryz.pinned (OpenSpec.upto fnExactFormatGroupsSpec)

/-- 'laws.FnSpaceRuns', WHERE WHAT IT READS IS OF BULK AT MOST 1048576: true; the input reads as it did. -/
def fnSpaceRunsUptoRow : OpenClaim := { program := "ytbhfiopdgapepaagreat", sum := "1ec51b74e550b20110701ea0408b0f10c55bf30dda8278f2f6d1a4b5ce5472bd", func := "loop.example/g00904/laws.FnSpaceRuns", spec := "fnSpaceRuns", inPlace := ["internal/abi.NoEscape", "internal/bytealg.MakeNoZero", "slices.overlaps[loop.example/g00904/impl.Page]"], unfollowed := true, recurses := true, apart := false, narrowed := true }
def FnSpaceRunsUptoSaid : Prop := fnSpaceRunsUptoRow.holds Tryz.pinned (OpenSpec.upto fnSpaceRunsSpec)

/-- 'laws.FnSpace', WHERE WHAT IT READS IS OF BULK AT MOST 1048576: true; the input reads as it did. -/
def fnSpaceUptoRow : OpenClaim := { program := "ytbhfiopdgapepaagreat", sum := "1ec51b74e550b20110701ea0408b0f10c55bf30dda8278f2f6d1a4b5ce5472bd", func := "loop.example/g00904/laws.FnSpace", spec := "fnSpace", inPlace := ["slices.overlaps[loop.example/g00904/impl.Page]"], unfollowed := true, recurses := true, apart := false, narrowed := true }
def FnSpaceUptoSaid : Prop := fnSpaceUptoRow.holds Tryz.pinned (OpenSpec.upto fnSpaceSpec)

/-- 'laws.FnFreeRuns', WHERE WHAT IT READS IS OF BULK AT MOST 1048576: true; the input reads as it did. -/
def fnFreeRunsUptoRow : OpenClaim := { program := "ytbhfiopdgapepaagreat", sum := "1ec51b74e550b20110701ea0408b0f10c55bf30dda8278f2f6d1a4b5ce5472bd", func := "loop.example/g00904/laws.FnFreeRuns", spec := "fnFreeRuns", inPlace := ["slices.overlaps[loop.example/g00904/impl.Page]"], unfollowed := true, recurses := true, apart := false, narrowed := true }
def FnFreeRunsUptoSaid : Prop := fnFreeRunsUptoRow.holds Tryz.pinned (OpenSpec.upto fnFreeRunsSpec)

end Rows
end Go.Proofs.YtbhfiopdgapepaaGreat
