/- strings.Builder's copyCheck walked, at this program's numbers. -/
import Derived.Test.YtljphigfgffeeaaTCopy
import Derived.Test.YtljphigfgffeeaaProg
import Derived.Lib.Builder
import Derived.WalkKit
namespace Go.Proofs.TM
open Go Go.Proofs Go.RowKit
set_option linter.unusedVariables false
set_option linter.unusedSimpArgs false

set_option maxHeartbeats 1000000 in
set_option maxRecDepth 100000 in
theorem ck_used : CkUsed Try.prog 66 := fun b w h0 => by
  have hj : ∃ j, Try.prog.info? 84 = some j := Option.isSome_iff_exists.1 (by kernel_rfl)
  obtain ⟨j, hj⟩ := hj
  have hu : Try.prog.underlying 82 = some (.pointer 84) := by kernel_rfl
  go_enter Try.func66, Try.ntmps66
  go_wp2
  rw [Lib.run_neq_ptr_same w _ hu hj]
  go_wp2
  go_end0
  exact ⟨rfl, rfl⟩

set_option maxHeartbeats 1000000 in
set_option maxRecDepth 100000 in
theorem ck_fresh : CkFresh Try.prog 66 84 := fun b w h0 hsh hfz => by
  have hs : (Try.prog.info? 84).map (·.size) = some 2 := by kernel_rfl
  obtain ⟨j, hj, hjs⟩ := Option.map_eq_some_iff.1 hs
  have hl : liesAt Try.prog Try.prog.depth 84 (2 / Try.prog.cellsOf 84) 0 84 1 = true := by kernel_rfl
  have hu : Try.prog.underlying 82 = some (.pointer 84) := by kernel_rfl
  have huu : Try.prog.underlying 115 = some .unsafePointer := by kernel_rfl
  go_enter Try.func66, Try.ntmps66
  go_wp2
  rw [Lib.run_to_unsafe w ⟨b, 0, none⟩ hu huu hj (by rw [hjs]; decide) hsh (Nat.zero_lt_succ 1)]
  simp only [Result.andThen]
  rw [Oper.upon_value]
  go_wp2
  rw [run_callFunc_extern Try.func78 (by kernel_rfl) (by kernel_rfl) (by kernel_rfl) (e := Extern.AbiNoEscape.same) (by kernel_rfl)]
  rw [Lib.run_noEscape]
  simp only [Result.andThen]
  rw [Oper.upon_value]
  go_wp2
  rw [Lib.run_from_unsafe w ⟨b, 0, none⟩ huu hu hj hsh hl]
  simp only [Result.andThen]
  rw [Oper.upon_value]
  go_wp2
  go_end0
  exact ⟨rfl, rfl⟩

theorem copyCheck_ok : MRuleOk Try.prog 66 2 (copy_r 84 5) := copyChk_ok ck_fresh ck_used ⟨_, Try.func66, by kernel_rfl, by kernel_rfl⟩
@[simp] theorem sA_allocS (S : Sys) (e : Env) (H : Heap) (b : Nat) : opA S e H b (.allocB 84) = some (.ptr b 0 0, [.live 2 [[.bself b 84, owb (b + 1) nilB.length 5]], ob 1 nilB]) := rfl
@[simp] theorem sR_allocS (rec : TC → Env → Heap → Option Out) (S : Sys) (e : Env) (H : Heap) : runOp rec S e H (.allocB 84) = some (.ptr H.length 0 0, H ++ [.live 2 [[.bself H.length 84, owb (H.length + 1) nilB.length 5]], ob 1 nilB]) := rfl
end Go.Proofs.TM
