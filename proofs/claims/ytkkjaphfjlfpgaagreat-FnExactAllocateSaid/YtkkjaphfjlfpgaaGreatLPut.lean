/- The allocation page replaced. -/
import Derived.Test.YtkkjaphfjlfpgaaGreatLSet
import Derived.Test.YtkkjaphfjlfpgaaGreatLAreaP
namespace Go.Proofs.TM
open Go Go.Proofs
set_option linter.unusedVariables false
set_option linter.unusedSimpArgs false
set_option maxHeartbeats 1000000

open Classical in
theorem l13Put_out (p : DPager) (d : Str) (hp : PagerV p) (hin : PagerIn p 1048576) :
    spec_l13Put_oea p.1.1 p.1.2.1 p.1.2.2.1 p.1.2.2.2 p.2.1.1 p.2.1.2.1 p.2.1.2.2.1 p.2.1.2.2.2 p.2.2.1 p.2.2.2.1 p.2.2.2.2.1 p.2.2.2.2.2 d = some (if SetV p (areaK p) d then outPg (setP p (areaK p) d) 0 else outPg p 5) := by
  unfold spec_l13Put_oea
  rw [show (p.2.1.1, p.2.1.2.1, p.2.1.2.2.1, p.2.1.2.2.2) = p.2.1 from rfl, l10Area_out p hp, Option.bind_some, l12Set_out p (areaK p) d hin, Option.bind_some]
  by_cases hs : SetV p (areaK p) d
  · rw [if_pos hs, if_pos hs]; rfl
  · rw [if_neg hs, if_neg hs]; rfl
end Go.Proofs.TM
