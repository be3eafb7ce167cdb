/- The law of ChooseSuper, on data. -/
import Derived.Test.YtmgkjmeoaegfaaaLChoose
namespace Go.Proofs.TM
open Go Go.Proofs
set_option linter.unusedVariables false
set_option linter.unusedSimpArgs false
set_option maxHeartbeats 1000000

theorem FnExactChooseSuper_true (d : DDisk) (hd : Gd.ok d) : laws_FnExactChooseSuper d = some true := by
  unfold laws_FnExactChooseSuper laws_szDisk
  have h1 := strsOk_of hd.1
  have h2 := putsOk_of hd.2.1
  have e : ∃ r, laws_szDisk d 1048576 = some r ∧ (0 ≤ r → d.1.length ≤ 1048576 ∧ d.2.1.length ≤ 1048576) := by
    unfold laws_szDisk
    rcases szStringS_out d.1 h1 1048576 (by omega) (by omega) with e | ⟨r1, e, a1, b1, c1⟩
    · exact ⟨-1, by rw [e]; rfl, fun h => by omega⟩
    rcases szPutS_out d.2.1 h2 r1 a1 (by omega) with e2 | ⟨r2, e2, a2, b2, c2⟩
    · exact ⟨-1, by rw [e, Option.bind_some, if_neg (by omega), e2]; rfl, fun h => by omega⟩
    exact ⟨r2, by rw [e, Option.bind_some, if_neg (by omega), e2, Option.bind_some, if_neg (by omega)], fun _ => ⟨by omega, by omega⟩⟩
  obtain ⟨r, hr, hin⟩ := e
  unfold laws_szDisk at hr
  rw [hr, Option.bind_some]
  by_cases hneg : r < 0
  · rw [if_pos hneg]
  rw [if_neg hneg]
  have hin := hin (by omega)
  have hT : laws_toDisk d = some d := by
    simp only [laws_toDisk, toStringS_out _ hin.1, toPutS_out _ hin.2, Option.bind_some]
  have hE : laws_eqDisk d d = some true := by simp [laws_eqDisk, eqStringS_same _ hin.1, eqPutS_same _ hin.2]
  have hS := spec_ChooseSuper_out d
  have hI := impl_ChooseSuper_out d
  generalize outC d = o at hS hI
  simp only [hT, Option.bind_some, hS, hI, hE]
  simp [laws_eqSuper]
end Go.Proofs.TM
