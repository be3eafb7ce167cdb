/-
  No cell of these rows narrows 'for every input' (looked for: loops, veiled, ifaces, maps, wideKeys, modest, calm, conditions, laid).
  DERIVED. THE GIVEN ROWS OF THIS SEAT. 4 by the template 'for every input the law returns true; each argument reads behind the call as it read before'; 0 by the template 'total and deterministic' (their statements: YtkkjaphfjlfpgaaGreatTotals.lean).
  GIVEN WITH THE SEED: the statements are not yours to turn. If you find one false, say at which input.
  Laid BY PROGRAM, IN A SANDBOX (cutbox-rows.mjs): the forced cells as the released guide's own fill.sh prints them over the translation 1f3b6e0d50c13de6… (all of the seat's roots in one cut). By AI agents, Wed Nov 11 2026. No macro, syntax, notation, axiom, sorry.
-/
import Derived.Test.YtkkjaphfjlfpgaaGreatChecked
import GoSem.Claim
import GoSem.ClaimJoined
import GoSem.ClaimMapViews
import Derived.JoinedTies
import Derived.KernelRfl
namespace Go.Proofs.YtkkjaphfjlfpgaaGreat
/- THE CELL 'sum', in the pinned program and in every row, IS THE sha256 OF THE DUMP (.gsa) THAT YtkkjaphfjlfpgaaGreatProg.lean LOADS. Nothing in Lean hashes anything: it is a label: what it is worth is what the hold of that sum in a sandbox is worth. -/
noncomputable def Tryz.pinned : Pinned := { name := "ytkkjaphfjlfpgaagreat", sum := "1f3b6e0d50c13de652450cfbd38188424b38165ecce877f17fa8e6edb49818c3", checked := Tryz.checked }
namespace Rows
def none {H : Type} : Left H := { results := [], args := [] }

/-- 'laws.FnExactSetRoot': WHATEVER THE INPUT: true; the input reads as it did. -/
def fnExactSetRootSpec : ChangeSpec := { name := "fnExactSetRoot", fn := fun _ => fun
  | [d1, d2] => { results := [.lit (.bool true)], args := [d1, d2] }
  | _ => none }
def fnExactSetRootRow : OpenClaim := { program := "ytkkjaphfjlfpgaagreat", sum := "1f3b6e0d50c13de652450cfbd38188424b38165ecce877f17fa8e6edb49818c3", func := "loop.example/g00904/laws.FnExactSetRoot", spec := "fnExactSetRoot", inPlace := ["slices.overlaps[loop.example/g00904/impl.Page]"], unfollowed := true, recurses := true, apart := false }
def FnExactSetRootSaid : Prop := fnExactSetRootRow.holds Tryz.pinned (OpenSpec.ofChange fnExactSetRootSpec)

/-- ITS FALSE NEIGHBOUR: 'it returns false'. Refute it at one input. -/
def fnExactSetRootWrong : ChangeSpec := { name := "fnExactSetRoot", fn := fun _ => fun
  | [d1, d2] => { results := [.lit (.bool false)], args := [d1, d2] }
  | _ => none }
def FnExactSetRootWrongFalsely : Prop := fnExactSetRootRow.holds Tryz.pinned (OpenSpec.ofChange fnExactSetRootWrong)

/-- 'laws.FnExactRelease': WHATEVER THE INPUT: true; the input reads as it did. -/
def fnExactReleaseSpec : ChangeSpec := { name := "fnExactRelease", fn := fun _ => fun
  | [d1, d2, d3] => { results := [.lit (.bool true)], args := [d1, d2, d3] }
  | _ => none }
def fnExactReleaseRow : OpenClaim := { program := "ytkkjaphfjlfpgaagreat", sum := "1f3b6e0d50c13de652450cfbd38188424b38165ecce877f17fa8e6edb49818c3", func := "loop.example/g00904/laws.FnExactRelease", spec := "fnExactRelease", inPlace := ["slices.overlaps[loop.example/g00904/impl.Page]"], unfollowed := true, recurses := true, apart := false }
def FnExactReleaseSaid : Prop := fnExactReleaseRow.holds Tryz.pinned (OpenSpec.ofChange fnExactReleaseSpec)

/-- ITS FALSE NEIGHBOUR: 'it returns false'. Refute it at one input. -/
def fnExactReleaseWrong : ChangeSpec := { name := "fnExactRelease", fn := fun _ => fun
  | [d1, d2, d3] => { results := [.lit (.bool false)], args := [d1, d2, d3] }
  | _ => none }
def FnExactReleaseWrongFalsely : Prop := fnExactReleaseRow.holds Tryz.pinned (OpenSpec.ofChange fnExactReleaseWrong)

/-- 'laws.FnExactAllocate': WHATEVER THE INPUT: true; the input reads as it did. -/
def fnExactAllocateSpec : ChangeSpec := { name := "fnExactAllocate", fn := fun _ => fun
  | [d1, d2] => { results := [.lit (.bool true)], args := [d1, d2] }
  | _ => none }
def fnExactAllocateRow : OpenClaim := { program := "ytkkjaphfjlfpgaagreat", sum := "1f3b6e0d50c13de652450cfbd38188424b38165ecce877f17fa8e6edb49818c3", func := "loop.example/g00904/laws.FnExactAllocate", spec := "fnExactAllocate", inPlace := ["slices.overlaps[loop.example/g00904/impl.Page]"], unfollowed := true, recurses := true, apart := false }
def FnExactAllocateSaid : Prop := fnExactAllocateRow.holds Tryz.pinned (OpenSpec.ofChange fnExactAllocateSpec)

/-- ITS FALSE NEIGHBOUR: 'it returns false'. Refute it at one input. -/
def fnExactAllocateWrong : ChangeSpec := { name := "fnExactAllocate", fn := fun _ => fun
  | [d1, d2] => { results := [.lit (.bool false)], args := [d1, d2] }
  | _ => none }
def FnExactAllocateWrongFalsely : Prop := fnExactAllocateRow.holds Tryz.pinned (OpenSpec.ofChange fnExactAllocateWrong)

/-- 'laws.FnExactWriteRun': WHATEVER THE INPUT: true; the input reads as it did. -/
def fnExactWriteRunSpec : ChangeSpec := { name := "fnExactWriteRun", fn := fun _ => fun
  | [d1, d2, d3] => { results := [.lit (.bool true)], args := [d1, d2, d3] }
  | _ => none }
def fnExactWriteRunRow : OpenClaim := { program := "ytkkjaphfjlfpgaagreat", sum := "1f3b6e0d50c13de652450cfbd38188424b38165ecce877f17fa8e6edb49818c3", func := "loop.example/g00904/laws.FnExactWriteRun", spec := "fnExactWriteRun", inPlace := ["internal/abi.NoEscape", "internal/bytealg.MakeNoZero", "slices.overlaps[loop.example/g00904/impl.Page]"], unfollowed := true, recurses := true, apart := false }
def FnExactWriteRunSaid : Prop := fnExactWriteRunRow.holds Tryz.pinned (OpenSpec.ofChange fnExactWriteRunSpec)

/-- ITS FALSE NEIGHBOUR: 'it returns false'. Refute it at one input. -/
def fnExactWriteRunWrong : ChangeSpec := { name := "fnExactWriteRun", fn := fun _ => fun
  | [d1, d2, d3] => { results := [.lit (.bool false)], args := [d1, d2, d3] }
  | _ => none }
def FnExactWriteRunWrongFalsely : Prop := fnExactWriteRunRow.holds Tryz.pinned (OpenSpec.ofChange fnExactWriteRunWrong)

/- THE SECOND FORM. 'bulk': how many values and letters a reading holds, each counted each time it is reached (what is shared counts as often as it is met; a slice's spare places count too). A statement '..UptoSaid' is the law's where the arguments, and the package variables that the reading takes, are together of bulk at most 1048576: NARROWER than '..Said'. Prove '..Said' where nothing that the law and all that it calls make is longer than what came in: it says more and counts as full. Else prove '..UptoSaid'. A law counts once. -/
mutual
def uptoBulk {H : Type} : DataW H → Nat
  | .lit (.string bytes) => bytes.length + 1
  | .lit _ => 1
  | .nil => 1
  | .ptr d => uptoBulk d + 1
  | .slice elems spare => uptoBulkAll elems + uptoBulkAll spare + 1
  | .agg parts => uptoBulkAll parts + 1
  | .iface _ d => uptoBulk d + 1
  | .map entries => uptoBulkEntries entries + 1
  | .held _ => 1
def uptoBulkAll {H : Type} : List (DataW H) → Nat
  | [] => 0
  | d :: r => uptoBulk d + uptoBulkAll r
def uptoBulkEntries {H : Type} : List (Lit × DataW H) → Nat
  | [] => 0
  | x :: r => uptoBulkEntry x + uptoBulkEntries r
def uptoBulkEntry {H : Type} : Lit × DataW H → Nat
  | (.string bytes, d) => bytes.length + uptoBulk d + 1
  | (_, d) => uptoBulk d + 1
 end
def uptoSmall : (H : Type) → List (DataW H) → Bool := fun _ ds => decide (uptoBulkAll ds ≤ 1048576)
def OpenSpec.upto (s : _root_.Go.ChangeSpec) : _root_.Go.OpenSpec := { _root_.Go.OpenSpec.ofChange s with cond := some uptoSmall }

/-- 'laws.FnExactSetRoot', WHERE WHAT IT READS IS OF BULK AT MOST 1048576: true; the input reads as it did. -/
def fnExactSetRootUptoRow : OpenClaim := { program := "ytkkjaphfjlfpgaagreat", sum := "1f3b6e0d50c13de652450cfbd38188424b38165ecce877f17fa8e6edb49818c3", func := "loop.example/g00904/laws.FnExactSetRoot", spec := "fnExactSetRoot", inPlace := ["slices.overlaps[loop.example/g00904/impl.Page]"], unfollowed := true, recurses := true, apart := false, narrowed := true }
def FnExactSetRootUptoSaid : Prop := fnExactSetRootUptoRow.holds Tryz.pinned (OpenSpec.upto fnExactSetRootSpec)

/-- 'laws.FnExactRelease', WHERE WHAT IT READS IS OF BULK AT MOST 1048576: true; the input reads as it did. -/
def fnExactReleaseUptoRow : OpenClaim := { program := "ytkkjaphfjlfpgaagreat", sum := "1f3b6e0d50c13de652450cfbd38188424b38165ecce877f17fa8e6edb49818c3", func := "loop.example/g00904/laws.FnExactRelease", spec := "fnExactRelease", inPlace := ["slices.overlaps[loop.example/g00904/impl.Page]"], unfollowed := true, recurses := true, apart := false, narrowed := true }
def FnExactReleaseUptoSaid : Prop := fnExactReleaseUptoRow.holds Tryz.pinned (OpenSpec.upto fnExactReleaseSpec)

/-- 'laws.FnExactAllocate', WHERE WHAT IT READS IS OF BULK AT MOST 1048576: true; the input reads as it did. -/
def fnExactAllocateUptoRow : OpenClaim := { program := "ytkkjaphfjlfpgaagreat", sum := "1f3b6e0d50c13de652450cfbd38188424b38165ecce877f17fa8e6edb49818c3", func := "loop.example/g00904/laws.FnExactAllocate", spec := "fnExactAllocate", inPlace := ["slices.overlaps[loop.example/g00904/impl.Page]"], unfollowed := true, recurses := true, apart := false, narrowed := true }
def FnExactAllocateUptoSaid : Prop := fnExactAllocateUptoRow.holds Tryz.pinned (OpenSpec.upto fnExactAllocateSpec)

/-- 'laws.FnExactWriteRun', WHERE WHAT IT READS IS OF BULK AT MOST 1048576: true; the input reads as it did. -/
def fnExactWriteRunUptoRow : OpenClaim := { program := "ytkkjaphfjlfpgaagreat", sum := "1f3b6e0d50c13de652450cfbd38188424b38165ecce877f17fa8e6edb49818c3", func := "loop.example/g00904/laws.FnExactWriteRun", spec := "fnExactWriteRun", inPlace := ["internal/abi.NoEscape", "internal/bytealg.MakeNoZero", "slices.overlaps[loop.example/g00904/impl.Page]"], unfollowed := true, recurses := true, apart := false, narrowed := true }
def FnExactWriteRunUptoSaid : Prop := fnExactWriteRunUptoRow.holds Tryz.pinned (OpenSpec.upto fnExactWriteRunSpec)

end Rows
end Go.Proofs.YtkkjaphfjlfpgaaGreat
