/- The law of FreeCount, on data. -/
import Derived.Test.YtmgkjmeoaegfaaaLRuns
namespace Go.Proofs.TM
open Go Go.Proofs
set_option linter.unusedVariables false
set_option linter.unusedSimpArgs false
set_option maxHeartbeats 1000000

def sumW (l : List (Int × Int)) (s : Int) : Nat → Int
  | 0 => s
  | i + 1 => IntKind.i64.wrap (sumW l s i + (l.getD i (0, 0)).2)

theorem l13Count_out (l : List (Int × Int)) (h : l.length ≤ 1048576) : spec_l13Count l = some (sumW l 0 l.length) := by
  unfold spec_l13Count spec_l13Count_l1
  rw [bind_some']
  refine loop_some l.length (fun i s => s = (sumW l 0 i, (i : Int))) (fun i s hi hs => ?_) l.length 0 _ (by omega) rfl
  subst hs
  simp only [spec_l13Count_l1_b]
  by_cases hn : i < l.length
  · obtain ⟨x, hx⟩ := get_at hn
    rw [if_pos (by omega), if_pos (by omega), Int.toNat_natCast, hx, Option.bind_some, w1 (by omega)]
    exact .inr ⟨hn, _, rfl, by simp only [sumW, List.getD_eq_getElem?_getD, hx]; rfl⟩
  · have : i = l.length := by omega
    subst this
    rw [if_neg (by omega)]; exact .inl rfl

open Classical in
theorem spec_FreeCount_out (p : DPager) (hin : PagerIn p 1048576) : spec_FreeCount p = some (if PagerV p then sumW (runsP p) 0 (runsP p).length else 0) := by
  unfold spec_FreeCount
  simp only [l12Ok_out p hin, Option.bind_some, deq]
  by_cases h : PagerV p
  · rw [if_neg (by simpa using h), if_pos h, l13Runs_out p h hin, Option.bind_some, l13Count_out _ (by have := runsP_len h; omega)]; rfl
  · rw [if_pos h, if_neg h]

open Classical in
theorem impl_FreeCount_out (p : DPager) (hin : PagerIn p 1048576) : impl_FreeCount p = some (if PagerV p then sumW (runsP p) 0 (runsP p).length else 0) := by
  unfold impl_FreeCount
  have hl : ((if PagerV p then runsP p else [] : List (Int × Int))).length ≤ 1048576 := by
    split
    · rename_i h; have := runsP_len h; omega
    · simp
  have he : (if PagerV p then sumW (runsP p) 0 (runsP p).length else 0) = sumW (if PagerV p then runsP p else []) 0 (if PagerV p then runsP p else [] : List (Int × Int)).length := by
    split <;> rfl
  rw [iFreeRuns_out p hin, Option.bind_some, bind_some', he]
  generalize (if PagerV p then runsP p else [] : List (Int × Int)) = l at *
  unfold impl_FreeCount_l1
  refine loop_some l.length (fun i s => s = (sumW l 0 i, (i : Int))) (fun i s hi hs => ?_) l.length 0 _ (by omega) rfl
  subst hs
  simp only [impl_FreeCount_l1_b]
  by_cases hn : i < l.length
  · obtain ⟨x, hx⟩ := get_at hn
    rw [if_pos (by omega), if_pos (by omega), Int.toNat_natCast, hx, Option.bind_some, w1 (by omega)]
    exact .inr ⟨hn, _, rfl, by simp only [sumW, List.getD_eq_getElem?_getD, hx]; rfl⟩
  · have : i = l.length := by omega
    subst this
    rw [if_neg (by omega)]; exact .inl rfl

theorem FnExactFreeCount_true (p : DPager) (h : Gd.ok p) : laws_FnExactFreeCount p = some true := by
  unfold laws_FnExactFreeCount
  obtain ⟨r, hr, hin⟩ := szPager_out p (pagerOk_of h)
  rw [hr, Option.bind_some]
  by_cases hneg : r < 0
  · rw [if_pos hneg]
  rw [if_neg hneg]
  have hin := hin (by omega)
  have hA : ((p.1.1, p.1.2.1, p.1.2.2.1, p.1.2.2.2), (p.2.1.1, p.2.1.2.1, p.2.1.2.2.1, p.2.1.2.2.2), p.2.2.1, p.2.2.2.1, p.2.2.2.2.1, p.2.2.2.2.2) = p := rfl
  simp only [toPager_out p hin, Option.bind_some, flatP, hA, spec_FreeCount_out p hin, impl_FreeCount_out p hin, eqPager_same p hin, not_true_eq_false, if_false]
end Go.Proofs.TM
