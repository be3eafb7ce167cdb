/- The law of SetPage, on data. -/
import Derived.Test.YtkkjaphfjlfpgaaLSet
namespace Go.Proofs.TM
open Go Go.Proofs
set_option linter.unusedVariables false
set_option linter.unusedSimpArgs false
set_option maxHeartbeats 1000000

theorem isPage_out (p : DPager) (k : Int) (hp : PagerV p) : impl_Pager_isPage p k = some (decide (2 + p.2.1.2.1 ≤ k ∧ k ≤ p.2.1.1 - 1)) := by
  obtain ⟨b1, b2, b3, b4, b5, b6⟩ := hp.2.2.1
  unfold impl_Pager_isPage impl_Pager_area impl_within
  simp only [Option.bind_some]
  rw [wrap_in (n := 2 + p.2.1.2.1) (by omega) (by omega), wrap_in (n := p.2.1.1 - 1) (by omega) (by omega)]
  by_cases h1 : 2 + p.2.1.2.1 ≤ k <;> by_cases h2 : k ≤ p.2.1.1 - 1 <;> simp [h1, h2]
theorem l12Page_out (p : DPager) (k : Int) (hp : PagerV p) : spec_l12Page p k = some (decide (2 + p.2.1.2.1 ≤ k ∧ k ≤ p.2.1.1 - 1)) := by
  obtain ⟨b1, b2, b3, b4, b5, b6⟩ := hp.2.2.1
  unfold spec_l12Page spec_l10Area spec_l00In
  simp only [Option.bind_some]
  rw [wrap_in (n := 2 + p.2.1.2.1) (by omega) (by omega), wrap_in (n := p.2.1.1 - 1) (by omega) (by omega)]
  by_cases h1 : 2 + p.2.1.2.1 ≤ k <;> by_cases h2 : k ≤ p.2.1.1 - 1 <;> simp [h1, h2]

open Classical in
noncomputable def outSP (p : DPager) (k : Int) (d : Str) : POut :=
  if PagerV p ∧ d.length = 64 then (if 2 + p.2.1.2.1 ≤ k ∧ k ≤ p.2.1.1 - 1 then (if SetV p k d then outPg (setP p k d) 0 else outPg noPg 5) else outPg noPg 2) else outPg noPg 1

theorem spec_SetPage_out (p : DPager) (k : Int) (d : Str) (hin : PagerIn p 1048576) : spec_SetPage p k d = some (outSP p k d) := by
  unfold spec_SetPage outSP
  simp only [l12Ok_out p hin, Option.bind_some, deq]
  by_cases h : PagerV p
  case neg => rw [if_pos (by simpa using h), if_neg (fun hh => h hh.1)]; rfl
  rw [if_neg (by simpa using h)]
  by_cases hd : d.length = 64
  case neg => rw [if_pos (by omega), if_neg (fun hh => hd hh.2)]; rfl
  rw [if_neg (by omega), if_pos ⟨h, hd⟩, l12Page_out p k h, Option.bind_some]
  by_cases hk : 2 + p.2.1.2.1 ≤ k ∧ k ≤ p.2.1.1 - 1
  case neg => rw [if_pos (by simpa using hk), if_neg hk]; rfl
  rw [if_neg (by simpa using hk), if_pos hk, l12Own_out p hin, Option.bind_some]
  simp only
  rw [l12Set_out p k d hin, Option.bind_some]
  by_cases hs : SetV p k d
  · rw [if_pos hs, if_pos hs]; rfl
  · rw [if_neg hs, if_neg hs]; rfl

theorem impl_SetPage_out (p : DPager) (k : Int) (d : Str) (hin : PagerIn p 1048576) : impl_SetPage p k d = some (outSP p k d) := by
  unfold impl_SetPage outSP
  simp only [ValidPager_out p hin, Option.bind_some, deq]
  by_cases h : PagerV p
  case neg => rw [if_pos (by simpa using h), if_neg (fun hh => h hh.1)]; rfl
  rw [if_neg (by simpa using h)]
  unfold impl_isBlock
  rw [Option.bind_some]
  by_cases hd : d.length = 64
  case neg => rw [if_pos (by simp; omega), if_neg (fun hh => hd hh.2)]; rfl
  rw [if_neg (by simp; omega), if_pos ⟨h, hd⟩, isPage_out p k h, Option.bind_some]
  by_cases hk : 2 + p.2.1.2.1 ≤ k ∧ k ≤ p.2.1.1 - 1
  case neg => rw [if_pos (by simpa using hk), if_neg hk]; rfl
  rw [if_neg (by simpa using hk), if_pos hk]
  unfold impl_Pager_changed_SetPage_c1 impl_SetPage_c1_o75
  rw [clone_out p hin, Option.bind_some]
  simp only
  rw [set_out p k d h hin, Option.bind_some]
  by_cases hs : SetV p k d
  · rw [if_pos hs, if_pos hs]; rfl
  · rw [if_neg hs, if_neg hs]; rfl

theorem outSP_in (p : DPager) (k : Int) (d : Str) (hin : PagerIn p 1048576) : PagerIn (outSP p k d).pg 1048576 := by
  unfold outSP
  split
  · rename_i h
    split
    · split
      · exact setP_in p k d h.1 hin
      · exact noPg_in
    · exact noPg_in
  · exact noPg_in

theorem FnExactSetPage_true (p : DPager) (k : Int) (d : Str) (h : Gd.ok p) (_ : Gd.ok k) (_ : Gd.ok d) : laws_FnExactSetPage p k d = some true := by
  unfold laws_FnExactSetPage
  by_cases hb : (d.length : Int) > 1048576
  · rw [if_pos hb]
  rw [if_neg hb]
  obtain ⟨r, hr, hin⟩ := szPager_out p (pagerOk_of h)
  rw [hr, Option.bind_some]
  by_cases hneg : r < 0
  · rw [if_pos hneg]
  rw [if_neg hneg]
  have hin := hin (by omega)
  have hS := spec_SetPage_out p k d hin
  have hI := impl_SetPage_out p k d hin
  have hoin := outSP_in p k d hin
  generalize outSP p k d = o at hS hI hoin
  unfold POut.pg at hoin
  obtain ⟨w, hw, w1, w2, w3, w4, w5, w6⟩ := markPager_out p hin
  obtain ⟨u, hu, u1, u2, u3, u4, u5, u6⟩ := markPager_out _ hoin
  simp only at hu u1 u2 u3 u4 u5 u6
  simp only [toPager_out p hin, Option.bind_some, flatP, pg_eta, hS, hI, eqPager_same _ hoin, eqPager_same p hin, not_true_eq_false, if_false, hw, w1, w2, w3, w4, w5, and_self, if_true, hu, u1, u2, u3, u4, u5, u6]
end Go.Proofs.TM
