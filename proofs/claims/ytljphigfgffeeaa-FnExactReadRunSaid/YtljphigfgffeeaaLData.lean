/- Data blocks, as the reference has them. -/
import Derived.Test.YtljphigfgffeeaaLArea
namespace Go.Proofs.TM
open Go Go.Proofs
set_option linter.unusedVariables false
set_option linter.unusedSimpArgs false
set_option maxHeartbeats 1000000

theorem l13Data_out (p : DPager) (hp : PagerV p) (k n : Int) (hn : -9223372036854775808 ≤ n) (hn' : n ≤ 9223372036854775807) : spec_l13Data p k n = some (decide (1 ≤ n ∧ n ≤ 256 ∧ areaK p < k ∧ k ≤ (p.1.1.length : Int) - n)) := by
  have := area_in hp
  unfold spec_l13Data spec_l00In spec_l13First
  rw [l10Area_out p hp]
  simp only [Option.bind_some]
  by_cases h1 : 1 ≤ n
  · by_cases h2 : n ≤ 256
    · rw [wrap_in (n := areaK p + 1) (by omega) (by omega), wrap_in (n := p.2.1.1 - 1) (by omega) (by omega)]
      by_cases h3 : areaK p + 1 ≤ k
      · by_cases h4 : k ≤ p.2.1.1 - 1
        · rw [wrap_in (n := k + n) (by omega) (by omega)]
          by_cases h5 : k + n ≤ p.2.1.1
          · simp [h1, h2, h3, h4, h5]; omega
          · simp [h1, h2, h3, h4, h5]; omega
        · simp [h1, h2, h3, h4]; omega
      · simp [h1, h2, h3]; omega
    · simp [h1, h2]
  · simp [h1]
end Go.Proofs.TM
