/- Disks in the laws: sizes, copies, comparisons, marks. -/
import Derived.Test.YtmgkjmeoaegfaaaLMark
namespace Go.Proofs.TM
open Go Go.Proofs
set_option linter.unusedVariables false
set_option linter.unusedSimpArgs false
set_option maxHeartbeats 1000000

def DiskOk (a : DDisk) : Prop := StrsOk a.1 ∧ PutsOk a.2.1
def DiskIn (a : DDisk) (L : Nat) : Prop := a.1.length ≤ L ∧ a.2.1.length ≤ L
theorem diskOk_of {a : DDisk} (h : Gd.ok a) : DiskOk a := ⟨strsOk_of h.1, putsOk_of h.2.1⟩
theorem szDisk_out (a : DDisk) (h : DiskOk a) : ∃ r, laws_szDisk a 1048576 = some r ∧ (0 ≤ r → DiskIn a 1048576) := by
  obtain ⟨h1, h2⟩ := h
  unfold laws_szDisk
  rcases szStringS_out a.1 h1 1048576 (by omega) (by omega) with e | ⟨r1, e, a1, b1, c1⟩
  · exact ⟨-1, by rw [e]; rfl, fun h => by omega⟩
  rcases szPutS_out a.2.1 h2 r1 a1 (by omega) with e2 | ⟨r2, e2, a2, b2, c2⟩
  · exact ⟨-1, by rw [e, Option.bind_some, if_neg (by omega), e2]; rfl, fun h => by omega⟩
  exact ⟨r2, by rw [e, Option.bind_some, if_neg (by omega), e2, Option.bind_some, if_neg (by omega)], fun _ => ⟨by omega, by omega⟩⟩
theorem toDisk_out (a : DDisk) (h : DiskIn a 1048576) : laws_toDisk a = some (a.1, a.2.1, a.2.2.1, a.2.2.2) := by
  simp only [laws_toDisk, toStringS_out _ h.1, toPutS_out _ h.2, Option.bind_some]
theorem eqDisk_same (a : DDisk) (h : DiskIn a 1048576) : laws_eqDisk a a = some true := by
  simp [laws_eqDisk, eqStringS_same _ h.1, eqPutS_same _ h.2]
theorem markDisk_out (a : DDisk) (h : DiskIn a 1048576) : ∃ r, laws_markDisk_o3e a.1 a.2.1 a.2.2.1 a.2.2.2 1 = some r ∧ r.1.length = a.1.length ∧ r.2.1.length = a.2.1.length ∧ 0 ≤ r.2.2 ∧
    laws_heldDisk (fixLen a.1 r.1, fixLen a.2.1 r.2.1, a.2.2.1, a.2.2.2) 1 = some r.2.2 := by
  obtain ⟨h1, h2⟩ := h
  obtain ⟨m1, e1, l1, q1⟩ := markStringS_out a.1 h1 1 (by omega) (by omega)
  obtain ⟨m2, e2, l2, q2⟩ := markPutS_out a.2.1 h2 (1 + a.1.length) (by omega) (by omega)
  refine ⟨(m1, m2, 1 + a.1.length + 2 * a.2.1.length), ?_, l1, l2, by simp only; omega, ?_⟩
  · simp only [laws_markDisk_o3e, e1, e2, l1, l2, fixLen_eq, Option.bind_some, if_true, and_self]
  · have g1 := heldStringS_out m1 (by omega) 1 (by omega) (by omega) q1
    have g2 := heldPutS_out m2 (by omega) (1 + a.1.length) (by omega) (by omega) q2
    rw [l1] at g1; rw [l2] at g2
    simp only [laws_heldDisk, fixLen_eq l1, fixLen_eq l2, g1, g2, Option.bind_some]
    rw [if_neg (by omega), if_neg (by omega)]
end Go.Proofs.TM
