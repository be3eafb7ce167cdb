/- A pager in memory of its own. -/
import Derived.Test.YtkkjaphfjlfpgaaGreatLPagerLaw
namespace Go.Proofs.TM
open Go Go.Proofs
set_option linter.unusedVariables false
set_option linter.unusedSimpArgs false
set_option maxHeartbeats 1000000

theorem l12Own_out (p : DPager) (h : PagerIn p 1048576) : spec_l12Own p = some (p.1.1, p.1.2.1, p.1.2.2.1, p.1.2.2.2, p.2.1.1, p.2.1.2.1, p.2.1.2.2.1, p.2.1.2.2.2, p.2.2.1, p.2.2.2.1, p.2.2.2.2.1, p.2.2.2.2.2) := by
  obtain ⟨h1, h2, h3, h4⟩ := h
  unfold spec_l12Own spec_l09Own spec_l12Pages
  rw [appL_nil 16 _ (by unfold maxRow; omega), appL_nil 24 _ (by unfold maxRow; omega), appL_nil 24 _ (by unfold maxRow; omega), appL_nil 24 _ (by unfold maxRow; omega)]
  rfl
theorem clone_out (p : DPager) (h : PagerIn p 1048576) : impl_Pager_clone p = some (p.1.1, p.1.2.1, p.1.2.2.1, p.1.2.2.2, p.2.1.1, p.2.1.2.1, p.2.1.2.2.1, p.2.1.2.2.2, p.2.2.1, p.2.2.2.1, p.2.2.2.2.1, p.2.2.2.2.2) := by
  obtain ⟨h1, h2, h3, h4⟩ := h
  unfold impl_Pager_clone impl_Disk_clone slices_Clone_impl_Page_impl_Page_ slices_Clone_impl_Put_impl_Put_ slices_Clone_string_string_
  rw [appL_nil 16 _ (by unfold maxRow; omega), appL_nil 24 _ (by unfold maxRow; omega), appL_nil 24 _ (by unfold maxRow; omega), appL_nil 24 _ (by unfold maxRow; omega)]
  rfl

end Go.Proofs.TM
