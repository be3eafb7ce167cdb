/- Superblocks: which are valid. -/
import Derived.Test.YtljphigfgffeeaaLDisk
namespace Go.Proofs.TM
open Go Go.Proofs
set_option linter.unusedVariables false
set_option linter.unusedSimpArgs false
set_option maxHeartbeats 1000000

def SuperV (s : DSuper) : Prop := 16 ≤ s.1 ∧ s.1 ≤ 256 ∧ 8 ≤ s.2.1 ∧ s.2.1 ≤ 64 ∧ s.2.1 ≤ s.1 - 4 ∧ 0 ≤ s.2.2.1 ∧ s.2.2.1 ≤ 1000000000000 ∧ 0 ≤ s.2.2.2 ∧ s.2.2.2 ≤ 1000000000000
open Classical in
theorem sValidSuper_out (s : DSuper) : spec_ValidSuper s = some (decide (SuperV s)) := by
  unfold spec_ValidSuper SuperV
  simp only [l00In_out, Option.bind_some, decide_eq_true_eq]
  by_cases h1 : 16 ≤ s.1 ∧ s.1 ≤ 256
  case neg => rw [if_neg h1]; exact dF fun h => h1 ⟨h.1, h.2.1⟩
  rw [if_pos h1, wrap_in (by omega) (by omega)]
  split
  · split
    · split
      · exact dI (by omega)
      · exact dF (by omega)
    · exact dF (by omega)
  · exact dF (by omega)
open Classical in
theorem iValidSuper_out (s : DSuper) : impl_ValidSuper s = some (decide (SuperV s)) := by
  unfold impl_ValidSuper SuperV
  simp only [within_out, Option.bind_some, decide_eq_true_eq]
  by_cases h1 : 16 ≤ s.1 ∧ s.1 ≤ 256
  case neg => rw [if_neg h1]; exact dF fun h => h1 ⟨h.1, h.2.1⟩
  rw [if_pos h1, wrap_in (by omega) (by omega)]
  split
  · split
    · exact dI (by omega)
    · exact dF (by omega)
  · exact dF (by omega)

end Go.Proofs.TM
