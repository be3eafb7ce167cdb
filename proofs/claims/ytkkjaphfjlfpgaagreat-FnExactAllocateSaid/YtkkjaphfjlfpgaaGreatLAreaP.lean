/- The allocation page. -/
import Derived.Test.YtkkjaphfjlfpgaaGreatLArea
import Derived.Test.YtkkjaphfjlfpgaaGreatLGet
namespace Go.Proofs.TM
open Go Go.Proofs
set_option linter.unusedVariables false
set_option linter.unusedSimpArgs false
set_option maxHeartbeats 1000000

def areaP (p : DPager) : Str := getP p (areaK p)
theorem areaP_len {p : DPager} (hp : PagerV p) : (areaP p).length = 64 := by
  have := area_in hp
  exact getP_len p _ hp (by omega) (by omega)
theorem l13Area_out (p : DPager) (hp : PagerV p) (hin : PagerIn p 1048576) : spec_l13Area p = some (areaP p) := by
  have := area_in hp
  unfold spec_l13Area
  rw [l10Area_out p hp, Option.bind_some, l12Get_out p _ hp hin (by omega) (by omega)]; rfl
end Go.Proofs.TM
