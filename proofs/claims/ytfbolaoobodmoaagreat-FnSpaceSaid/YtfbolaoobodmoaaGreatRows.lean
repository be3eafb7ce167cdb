/-
  No cell of these rows narrows 'for every input' (looked for: loops, veiled, ifaces, maps, wideKeys, modest, calm, conditions, laid).
  DERIVED. THE GIVEN ROWS OF THIS SEAT. 3 by the template 'for every input the law returns true; each argument reads behind the call as it read before'; 0 by the template 'total and deterministic' (their statements: YtfbolaoobodmoaaGreatTotals.lean).
  GIVEN WITH THE SEED: the statements are not yours to turn. If you find one false, say at which input.
  Laid BY PROGRAM, IN A SANDBOX (cutbox-rows.mjs): the forced cells as the released guide's own fill.sh prints them over the translation 00cfee407a613b08… (all of the seat's roots in one cut). By AI agents, Wed Nov 11 2026. No macro, syntax, notation, axiom, sorry.
-/
import Derived.Test.YtfbolaoobodmoaaGreatChecked
import GoSem.Claim
import GoSem.ClaimJoined
import GoSem.ClaimMapViews
import Derived.JoinedTies
import Derived.KernelRfl
namespace Go.Proofs.YtfbolaoobodmoaaGreat
/- THE CELL 'sum', in the pinned program and in every row, IS THE sha256 OF THE DUMP (.gsa) THAT YtfbolaoobodmoaaGreatProg.lean LOADS. Nothing in Lean hashes anything: it is a label: what it is worth is what the hold of that sum in a sandbox is worth. -/
noncomputable def Tryz.pinned : Pinned := { name := "ytfbolaoobodmoaagreat", sum := "00cfee407a613b08dd456751f99913af2b5d8e3cacb4f2e8b445bf3f04bc8b8f", checked := Tryz.checked }
namespace Rows
def none {H : Type} : Left H := { results := [], args := [] }

/-- 'laws.FnFreeRuns': WHATEVER THE INPUT: true; the input reads as it did. -/
def fnFreeRunsSpec : ChangeSpec := { name := "fnFreeRuns", fn := fun _ => fun
  | [d1, d2] => { results := [.lit (.bool true)], args := [d1, d2] }
  | _ => none }
def fnFreeRunsRow : OpenClaim := { program := "ytfbolaoobodmoaagreat", sum := "00cfee407a613b08dd456751f99913af2b5d8e3cacb4f2e8b445bf3f04bc8b8f", func := "loop.example/g00904/laws.FnFreeRuns", spec := "fnFreeRuns", inPlace := ["slices.overlaps[loop.example/g00904/impl.Page]"], unfollowed := true, recurses := true, apart := false }
def FnFreeRunsSaid : Prop := fnFreeRunsRow.holds Tryz.pinned (OpenSpec.ofChange fnFreeRunsSpec)

/-- ITS FALSE NEIGHBOUR: 'it returns false'. Refute it at one input. -/
def fnFreeRunsWrong : ChangeSpec := { name := "fnFreeRuns", fn := fun _ => fun
  | [d1, d2] => { results := [.lit (.bool false)], args := [d1, d2] }
  | _ => none }
def FnFreeRunsWrongFalsely : Prop := fnFreeRunsRow.holds Tryz.pinned (OpenSpec.ofChange fnFreeRunsWrong)

/-- 'laws.FnSpace': WHATEVER THE INPUT: true; the input reads as it did. -/
def fnSpaceSpec : ChangeSpec := { name := "fnSpace", fn := fun _ => fun
  | [d] => { results := [.lit (.bool true)], args := [d] }
  | _ => none }
def fnSpaceRow : OpenClaim := { program := "ytfbolaoobodmoaagreat", sum := "00cfee407a613b08dd456751f99913af2b5d8e3cacb4f2e8b445bf3f04bc8b8f", func := "loop.example/g00904/laws.FnSpace", spec := "fnSpace", inPlace := ["slices.overlaps[loop.example/g00904/impl.Page]"], unfollowed := true, recurses := true, apart := false }
def FnSpaceSaid : Prop := fnSpaceRow.holds Tryz.pinned (OpenSpec.ofChange fnSpaceSpec)

/-- ITS FALSE NEIGHBOUR: 'it returns false'. Refute it at one input. -/
def fnSpaceWrong : ChangeSpec := { name := "fnSpace", fn := fun _ => fun
  | [d] => { results := [.lit (.bool false)], args := [d] }
  | _ => none }
def FnSpaceWrongFalsely : Prop := fnSpaceRow.holds Tryz.pinned (OpenSpec.ofChange fnSpaceWrong)

/-- 'laws.FnSpaceRuns': WHATEVER THE INPUT: true; the input reads as it did. -/
def fnSpaceRunsSpec : ChangeSpec := { name := "fnSpaceRuns", fn := fun _ => fun
  | [d] => { results := [.lit (.bool true)], args := [d] }
  | _ => none }
def fnSpaceRunsRow : OpenClaim := { program := "ytfbolaoobodmoaagreat", sum := "00cfee407a613b08dd456751f99913af2b5d8e3cacb4f2e8b445bf3f04bc8b8f", func := "loop.example/g00904/laws.FnSpaceRuns", spec := "fnSpaceRuns", inPlace := ["internal/abi.NoEscape", "internal/bytealg.MakeNoZero", "slices.overlaps[loop.example/g00904/impl.Page]"], unfollowed := true, recurses := true, apart := false }
def FnSpaceRunsSaid : Prop := fnSpaceRunsRow.holds Tryz.pinned (OpenSpec.ofChange fnSpaceRunsSpec)

/-- ITS FALSE NEIGHBOUR: 'it returns false'. Refute it at one input. -/
def fnSpaceRunsWrong : ChangeSpec := { name := "fnSpaceRuns", fn := fun _ => fun
  | [d] => { results := [.lit (.bool false)], args := [d] }
  | _ => none }
def FnSpaceRunsWrongFalsely : Prop := fnSpaceRunsRow.holds Tryz.pinned (OpenSpec.ofChange fnSpaceRunsWrong)

/- THE SECOND FORM. 'bulk': how many values and letters a reading holds, each counted each time it is reached (what is shared counts as often as it is met; a slice's spare places count too). A statement '..UptoSaid' is the law's where the arguments, and the package variables that the reading takes, are together of bulk at most 1048576: NARROWER than '..Said'. Prove '..Said' where nothing that the law and all that it calls make is longer than what came in: it says more and counts as full. Else prove '..UptoSaid'. A law counts once. -/
mutual
def uptoBulk {H : Type} : DataW H → Nat
  | .lit (.string bytes) => bytes.length + 1
  | .lit _ => 1
  | .nil => 1
  | .ptr d => uptoBulk d + 1
  | .slice elems spare => uptoBulkAll elems + uptoBulkAll spare + 1
  | .agg parts => uptoBulkAll parts + 1
  | .iface _ d => uptoBulk d + 1
  | .map entries => uptoBulkEntries entries + 1
  | .held _ => 1
def uptoBulkAll {H : Type} : List (DataW H) → Nat
  | [] => 0
  | d :: r => uptoBulk d + uptoBulkAll r
def uptoBulkEntries {H : Type} : List (Lit × DataW H) → Nat
  | [] => 0
  | x :: r => uptoBulkEntry x + uptoBulkEntries r
def uptoBulkEntry {H : Type} : Lit × DataW H → Nat
  | (.string bytes, d) => bytes.length + uptoBulk d + 1
  | (_, d) => uptoBulk d + 1
 end
def uptoSmall : (H : Type) → List (DataW H) → Bool := fun _ ds => decide (uptoBulkAll ds ≤ 1048576)
def OpenSpec.upto (s : _root_.Go.ChangeSpec) : _root_.Go.OpenSpec := { _root_.Go.OpenSpec.ofChange s with cond := some uptoSmall }

/-- 'laws.FnFreeRuns', WHERE WHAT IT READS IS OF BULK AT MOST 1048576: true; the input reads as it did. -/
def fnFreeRunsUptoRow : OpenClaim := { program := "ytfbolaoobodmoaagreat", sum := "00cfee407a613b08dd456751f99913af2b5d8e3cacb4f2e8b445bf3f04bc8b8f", func := "loop.example/g00904/laws.FnFreeRuns", spec := "fnFreeRuns", inPlace := ["slices.overlaps[loop.example/g00904/impl.Page]"], unfollowed := true, recurses := true, apart := false, narrowed := true }
def FnFreeRunsUptoSaid : Prop := fnFreeRunsUptoRow.holds Tryz.pinned (OpenSpec.upto fnFreeRunsSpec)

/-- 'laws.FnSpace', WHERE WHAT IT READS IS OF BULK AT MOST 1048576: true; the input reads as it did. -/
def fnSpaceUptoRow : OpenClaim := { program := "ytfbolaoobodmoaagreat", sum := "00cfee407a613b08dd456751f99913af2b5d8e3cacb4f2e8b445bf3f04bc8b8f", func := "loop.example/g00904/laws.FnSpace", spec := "fnSpace", inPlace := ["slices.overlaps[loop.example/g00904/impl.Page]"], unfollowed := true, recurses := true, apart := false, narrowed := true }
def FnSpaceUptoSaid : Prop := fnSpaceUptoRow.holds Tryz.pinned (OpenSpec.upto fnSpaceSpec)

/-- 'laws.FnSpaceRuns', WHERE WHAT IT READS IS OF BULK AT MOST 1048576: true; the input reads as it did. -/
def fnSpaceRunsUptoRow : OpenClaim := { program := "ytfbolaoobodmoaagreat", sum := "00cfee407a613b08dd456751f99913af2b5d8e3cacb4f2e8b445bf3f04bc8b8f", func := "loop.example/g00904/laws.FnSpaceRuns", spec := "fnSpaceRuns", inPlace := ["internal/abi.NoEscape", "internal/bytealg.MakeNoZero", "slices.overlaps[loop.example/g00904/impl.Page]"], unfollowed := true, recurses := true, apart := false, narrowed := true }
def FnSpaceRunsUptoSaid : Prop := fnSpaceRunsUptoRow.holds Tryz.pinned (OpenSpec.upto fnSpaceRunsSpec)

end Rows
end Go.Proofs.YtfbolaoobodmoaaGreat
