/- The law of Allocate, on data. -/
import Derived.Test.YtkkjaphfjlfpgaaGreatLAlloc
namespace Go.Proofs.TM
open Go Go.Proofs
set_option linter.unusedVariables false
set_option linter.unusedSimpArgs false
set_option maxHeartbeats 1000000

open Classical in
noncomputable def outAl (p : DPager) (n : Int) : POut2 :=
  if PagerV p then (if 1 ≤ n ∧ n ≤ 256 then (if (bestP (runsP p) n).2 = 0 then outPg2 noPg 0 5 else if AllV p n then outPg2 (allP p n) (bestP (runsP p) n).1 0 else outPg2 noPg 0 5) else outPg2 noPg 0 2) else outPg2 noPg 0 1

theorem spec_Allocate_out (p : DPager) (n : Int) (hin : PagerIn p 1048576) : spec_Allocate p n = some (outAl p n) := by
  unfold spec_Allocate outAl
  simp only [l12Ok_out p hin, Option.bind_some, deq]
  by_cases h : PagerV p
  case neg => rw [if_pos (by simpa using h), if_neg h]; rfl
  rw [if_neg (by simpa using h), if_pos h]
  have hwi : spec_l00In n 1 256 = some (decide (1 ≤ n ∧ n ≤ 256)) := by
    unfold spec_l00In
    by_cases h1 : 1 ≤ n <;> by_cases h2 : n ≤ 256 <;> simp [h1, h2]
  rw [hwi, Option.bind_some]
  by_cases hnn : 1 ≤ n ∧ n ≤ 256
  case neg => rw [if_pos (by simpa using hnn), if_neg hnn]; rfl
  rw [if_neg (by simpa using hnn), if_pos hnn, l12Own_out p hin, Option.bind_some, l13Allocate_out p n h hin hnn.1 hnn.2, Option.bind_some]
  unfold outA
  by_cases hz : (bestP (runsP p) n).2 = 0
  · rw [if_pos hz, if_pos hz]; rfl
  · rw [if_neg hz, if_neg hz]
    by_cases hs : AllV p n
    · rw [if_pos hs, if_pos hs]; rfl
    · rw [if_neg hs, if_neg hs]; rfl

theorem impl_Allocate_out (p : DPager) (n : Int) (hin : PagerIn p 1048576) : impl_Allocate p n = some (outAl p n) := by
  unfold impl_Allocate outAl
  simp only [ValidPager_out p hin, Option.bind_some, deq]
  by_cases h : PagerV p
  case neg => rw [if_pos (by simpa using h), if_neg h]; rfl
  rw [if_neg (by simpa using h), if_pos h]
  have hwi : impl_within n 1 256 = some (decide (1 ≤ n ∧ n ≤ 256)) := by
    unfold impl_within
    by_cases h1 : 1 ≤ n <;> by_cases h2 : n ≤ 256 <;> simp [h1, h2]
  rw [hwi, Option.bind_some]
  by_cases hnn : 1 ≤ n ∧ n ≤ 256
  case neg => rw [if_pos (by simpa using hnn), if_neg hnn]; rfl
  rw [if_neg (by simpa using hnn), if_pos hnn]
  unfold impl_Pager_changed_o25 impl_Allocate_c1_o8a
  simp only [pg_eta]
  rw [clone_out p hin, Option.bind_some]
  simp only [pg_eta]
  rw [allocate_out p n h hin hnn.1 hnn.2]
  unfold outA
  by_cases hz : (bestP (runsP p) n).2 = 0
  · rw [if_pos hz, if_pos hz]; rfl
  · rw [if_neg hz, if_neg hz]
    by_cases hs : AllV p n
    · rw [if_pos hs, if_pos hs]; rfl
    · rw [if_neg hs, if_neg hs]; rfl

theorem outAl_in (p : DPager) (n : Int) (hin : PagerIn p 1048576) : PagerIn (outAl p n).pg 1048576 := by
  unfold outAl
  split
  · rename_i h
    split
    · split
      · exact noPg_in
      · split
        · exact setP_in p _ _ h hin
        · exact noPg_in
    · exact noPg_in
  · exact noPg_in

theorem FnExactAllocate_true (p : DPager) (n : Int) (h : Gd.ok p) (hn : Gd.ok n) : laws_FnExactAllocate p n = some true := by
  unfold laws_FnExactAllocate
  obtain ⟨r, hr, hin⟩ := szPager_out p (pagerOk_of h)
  rw [hr, Option.bind_some]
  by_cases hneg : r < 0
  · rw [if_pos hneg]
  rw [if_neg hneg]
  have hin := hin (by omega)
  have hS := spec_Allocate_out p n hin
  have hI := impl_Allocate_out p n hin
  have hoin := outAl_in p n hin
  generalize outAl p n = o at hS hI hoin
  unfold POut2.pg at hoin
  obtain ⟨w, hw, w1, w2, w3, w4, w5, w6⟩ := markPager_out p hin
  obtain ⟨u, hu, u1, u2, u3, u4, u5, u6⟩ := markPager_out _ hoin
  simp only at hu u1 u2 u3 u4 u5 u6
  simp only [toPager_out p hin, Option.bind_some, flatP, pg_eta, hS, hI, eqPager_same _ hoin, eqPager_same p hin, not_true_eq_false, if_false, hw, w1, w2, w3, w4, w5, and_self, if_true, hu, u1, u2, u3, u4, u5, u6]
end Go.Proofs.TM
