/- The allocation page's number; data blocks. -/
import Derived.Test.YtljphigfgffeeaaLPager
namespace Go.Proofs.TM
open Go Go.Proofs
set_option linter.unusedVariables false
set_option linter.unusedSimpArgs false
set_option maxHeartbeats 1000000

def areaK (p : DPager) : Int := 2 + p.2.1.2.1
theorem area_in {p : DPager} (hp : PagerV p) : 10 ≤ areaK p ∧ areaK p < (p.1.1.length : Int) - 1 ∧ (p.1.1.length : Int) ≤ 256 ∧ p.2.1.1 = (p.1.1.length : Int) := by
  have h := hp.2.2.1
  obtain ⟨a1, a2, a3, a4, a5, _⟩ := h
  have := hp.2.2.2.1
  unfold areaK
  omega
theorem l10Area_out (p : DPager) (hp : PagerV p) : spec_l10Area p.2.1 = some (areaK p) := by
  have := area_in hp
  unfold spec_l10Area
  rw [wrap_in (by unfold areaK at this; omega) (by unfold areaK at this; omega)]; rfl
theorem iArea_out (p : DPager) (hp : PagerV p) : impl_Pager_area p = some (areaK p) := by
  have := area_in hp
  unfold impl_Pager_area
  rw [wrap_in (by unfold areaK at this; omega) (by unfold areaK at this; omega)]; rfl
theorem isData_out (p : DPager) (hp : PagerV p) (k n : Int) (hn : 1 ≤ n) (hn' : n ≤ 1048576) : impl_Pager_isData p k n = some (decide (areaK p < k ∧ k ≤ (p.1.1.length : Int) - n)) := by
  have := area_in hp
  unfold impl_Pager_isData
  rw [iArea_out p hp, Option.bind_some, wrap_in (n := p.2.1.1 - n) (by omega) (by omega)]
  by_cases h1 : k > areaK p
  · rw [if_pos h1]
    by_cases h2 : n ≤ p.2.1.1
    · rw [if_pos h2]; exact dI (by omega)
    · rw [if_neg h2]; exact dF (by omega)
  · rw [if_neg h1]; exact dF (by omega)
end Go.Proofs.TM
