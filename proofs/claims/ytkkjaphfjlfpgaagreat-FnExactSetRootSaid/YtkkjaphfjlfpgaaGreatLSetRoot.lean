/- The law of SetRoot, on data. -/
import Derived.Test.YtkkjaphfjlfpgaaGreatLPut
import Derived.Test.YtkkjaphfjlfpgaaGreatLBytes
namespace Go.Proofs.TM
open Go Go.Proofs
set_option linter.unusedVariables false
set_option linter.unusedSimpArgs false
set_option maxHeartbeats 1000000

theorem subL_from (s : Str) (k : Nat) (h : k ≤ s.length) : subL s (some (k : Int)) none = some (s.drop k) := by
  simp [subL, bound, h]

def rootD (p : DPager) (k : Int) : Str := leB k 2 ++ (areaP p).drop 2
open Classical in
noncomputable def outSR (p : DPager) (k : Int) : POut :=
  if PagerV p then (if k = 0 ∨ (areaK p < k ∧ k ≤ (p.1.1.length : Int) - 1) then (if SetV p (areaK p) (rootD p k) then outPg (setP p (areaK p) (rootD p k)) 0 else outPg noPg 5) else outPg noPg 2) else outPg noPg 1

theorem spec_SetRoot_p1_out (p : DPager) (k : Int) (hp : PagerV p) (hin : PagerIn p 1048576) (h0 : 0 ≤ k) (h1 : k ≤ 256) (a : Int) (b : Bool) (c d e f g h : Int) :
    spec_SetRoot_p1 k p.1.1 p.1.2.1 p.1.2.2.1 p.1.2.2.2 p.2.1.1 p.2.1.2.1 p.2.1.2.2.1 p.2.1.2.2.2 p.2.2.1 p.2.2.2.1 p.2.2.2.2.1 p.2.2.2.2.2 a b c d e f g h =
      some (@ite _ (SetV p (areaK p) (rootD p k)) (Classical.propDecidable _) (outPg (setP p (areaK p) (rootD p k)) 0) (outPg noPg 5)) := by
  have hl := areaP_len hp
  unfold spec_SetRoot_p1
  rw [pg_eta, l12Own_out p hin, Option.bind_some]
  have hb : spec_l01Bytes k 2 = some (leB k 2) := l01Bytes_out k 2 (by omega) (by omega) (by omega)
  have hs2 : subL (areaP p) (some 2) none = some ((areaP p).drop 2) := subL_from (areaP p) 2 (by omega)
  rw [hb, Option.bind_some, l13Area_out p hp hin, Option.bind_some, hs2, Option.bind_some, if_pos (by simp [leB]; omega)]
  simp only
  rw [show leB k 2 ++ (areaP p).drop 2 = rootD p k from rfl, l13Put_out p _ hp hin, Option.bind_some]
  by_cases hs : SetV p (areaK p) (rootD p k)
  · rw [if_pos hs, if_pos hs]; rfl
  · rw [if_neg hs, if_neg hs]; rfl

theorem spec_SetRoot_out (p : DPager) (k : Int) (hin : PagerIn p 1048576) : spec_SetRoot p k = some (outSR p k) := by
  unfold spec_SetRoot outSR
  simp only [l12Ok_out p hin, Option.bind_some, deq]
  by_cases h : PagerV p
  case neg => rw [if_pos (by simpa using h), if_neg h]; rfl
  have ha := area_in h
  rw [if_neg (by simpa using h), if_pos h]
  by_cases hk : k = 0
  · subst hk
    rw [if_neg (by omega), if_pos (.inl rfl), spec_SetRoot_p1_out p 0 h hin (by omega) (by omega)]; rfl
  · rw [if_pos hk, l13Data_out p h k 1 (by omega) (by omega), Option.bind_some]
    by_cases hd : areaK p < k ∧ k ≤ (p.1.1.length : Int) - 1
    · rw [if_neg (by simp; omega), if_pos (.inr hd), spec_SetRoot_p1_out p k h hin (by omega) (by omega)]; rfl
    · rw [if_pos (by simp; omega), if_neg (by omega)]; rfl

theorem impl_SetRoot_p1_out (p : DPager) (k : Int) (hp : PagerV p) (hin : PagerIn p 1048576) (h0 : 0 ≤ k) (h1 : k ≤ 256) (a : Int) (b : Bool) (c d e f g h : Int) :
    impl_SetRoot_p1 p.1.1 p.1.2.1 p.1.2.2.1 p.1.2.2.2 p.2.1.1 p.2.1.2.1 p.2.1.2.2.1 p.2.1.2.2.2 p.2.2.1 p.2.2.2.1 p.2.2.2.2.1 p.2.2.2.2.2 k a b c d e f g h =
      some (@ite _ (SetV p (areaK p) (rootD p k)) (Classical.propDecidable _) (outPg (setP p (areaK p) (rootD p k)) 0) (outPg noPg 5)) := by
  have hl := areaP_len hp
  have ha := area_in hp
  unfold impl_SetRoot_p1 impl_Pager_changed_SetRoot_c1 impl_SetRoot_c1_od2 impl_Pager_setRoot_of2
  rw [pg_eta, clone_out p hin, Option.bind_some]
  simp only [pg_eta]
  have hb : impl_putBytes k 2 = some (leB k 2) := putBytes_out k 2 (by omega)
  have hs2 : subL (areaP p) (some 2) none = some ((areaP p).drop 2) := subL_from (areaP p) 2 (by omega)
  rw [iArea_out p hp, Option.bind_some, hb, Option.bind_some, Option.bind_some, get_out p _ hp hin (by omega) (by omega), Option.bind_some, show getP p (areaK p) = areaP p from rfl, hs2, Option.bind_some, if_pos (by simp [leB]; omega)]
  rw [show leB k 2 ++ (areaP p).drop 2 = rootD p k from rfl, set_out p _ _ hp hin, Option.bind_some, Option.bind_some, Option.bind_some]
  by_cases hs : SetV p (areaK p) (rootD p k)
  · rw [if_pos hs, if_pos hs]; rfl
  · rw [if_neg hs, if_neg hs]; rfl

theorem impl_SetRoot_out (p : DPager) (k : Int) (hin : PagerIn p 1048576) : impl_SetRoot p k = some (outSR p k) := by
  unfold impl_SetRoot outSR
  simp only [ValidPager_out p hin, Option.bind_some, deq]
  by_cases h : PagerV p
  case neg => rw [if_pos (by simpa using h), if_neg h]; rfl
  have ha := area_in h
  rw [if_neg (by simpa using h), if_pos h]
  by_cases hk : k = 0
  · subst hk
    rw [if_neg (by omega), if_pos (.inl rfl), impl_SetRoot_p1_out p 0 h hin (by omega) (by omega)]; rfl
  · rw [if_pos hk, isData_out p h k 1 (by omega) (by omega), Option.bind_some]
    by_cases hd : areaK p < k ∧ k ≤ (p.1.1.length : Int) - 1
    · rw [if_neg (by simp; omega), if_pos (.inr hd), impl_SetRoot_p1_out p k h hin (by omega) (by omega)]; rfl
    · rw [if_pos (by simp; omega), if_neg (by omega)]; rfl

theorem outSR_in (p : DPager) (k : Int) (hin : PagerIn p 1048576) : PagerIn (outSR p k).pg 1048576 := by
  unfold outSR
  split
  · rename_i h
    split
    · split
      · exact setP_in p _ _ h hin
      · exact noPg_in
    · exact noPg_in
  · exact noPg_in

theorem FnExactSetRoot_true (p : DPager) (k : Int) (h : Gd.ok p) (_ : Gd.ok k) : laws_FnExactSetRoot p k = some true := by
  unfold laws_FnExactSetRoot
  obtain ⟨r, hr, hin⟩ := szPager_out p (pagerOk_of h)
  rw [hr, Option.bind_some]
  by_cases hneg : r < 0
  · rw [if_pos hneg]
  rw [if_neg hneg]
  have hin := hin (by omega)
  have hS := spec_SetRoot_out p k hin
  have hI := impl_SetRoot_out p k hin
  have hoin := outSR_in p k hin
  generalize outSR p k = o at hS hI hoin
  unfold POut.pg at hoin
  obtain ⟨w, hw, w1, w2, w3, w4, w5, w6⟩ := markPager_out p hin
  obtain ⟨u, hu, u1, u2, u3, u4, u5, u6⟩ := markPager_out _ hoin
  simp only at hu u1 u2 u3 u4 u5 u6
  simp only [toPager_out p hin, Option.bind_some, flatP, pg_eta, hS, hI, eqPager_same _ hoin, eqPager_same p hin, not_true_eq_false, if_false, hw, w1, w2, w3, w4, w5, and_self, if_true, hu, u1, u2, u3, u4, u5, u6]
end Go.Proofs.TM
