/- The law of CommittedPages, on data. -/
import Derived.Test.YtmgkjmeoaegfaaaLRuns
import Derived.Test.YtmgkjmeoaegfaaaLMark
namespace Go.Proofs.TM
open Go Go.Proofs
set_option linter.unusedVariables false
set_option linter.unusedSimpArgs false
set_option maxHeartbeats 1000000

def pagesP (p : DPager) (n : Nat) : List Str := (List.range n).map fun (i : Nat) => comP p (areaK p + i)

theorem happS (l : List Str) (x : Str) (h : l.length ≤ 1000) : appL 16 l (lit [x]) = some (l ++ [x]) := by unfold appL lit; rw [if_pos (by simp [maxRow]; omega)]

open Classical in
noncomputable def outCP (p : DPager) : List Str × Int := if PagerV p then (pagesP p (p.1.1.length - (areaK p).toNat), 0) else ([], 1)

theorem l12All_out (p : DPager) (hp : PagerV p) (hin : PagerIn p 1048576) : spec_l12All p = some (pagesP p (p.1.1.length - (areaK p).toNat)) := by
  have ha := area_in hp
  obtain ⟨a, hae⟩ : ∃ a : Nat, areaK p = a := ⟨(areaK p).toNat, by omega⟩
  unfold spec_l12All spec_l12All_l1
  rw [l10Area_out p hp, Option.bind_some, bind_some']
  rw [hae, Int.toNat_natCast]
  refine loop_some (p.1.1.length - a) (fun i s => s = (pagesP p i, (a : Int) + i)) (fun i s hi hs => ?_) (p.1.1.length - a) 0 _ (by omega) (by simp [pagesP])
  subst hs
  simp only [spec_l12All_l1_b]
  have hl : (pagesP p i).length = i := by simp [pagesP]
  have hs : pagesP p (i + 1) = pagesP p i ++ [comP p (a + i)] := by simp [pagesP, List.range_succ, hae]
  by_cases hn : i < p.1.1.length - a
  · rw [if_pos (by omega)]
    right
    obtain ⟨r, hr, hr2⟩ := l11Find_out p.2.2.2.2.1 ((a : Int) + i) hin.2.2.1
    have hc : comP p ((a : Int) + i) = (match pgF p.2.2.2.2.1 ((a : Int) + i) with | some x => x.2 | none => rdD p.1 ((a : Int) + i)) := rfl
    rw [hr, Option.bind_some]
    rcases hr2 with ⟨rfl, hf⟩ | ⟨j, x, rfl, hx, hf⟩
    · rw [hf] at hc
      simp only at hc
      rw [if_neg (by omega), show (p.1.1, p.1.2.1, p.1.2.2.1, p.1.2.2.2) = p.1 from rfl, l09Read_out _ _ hin.2.1, (readD_out p.1 _ hp.1 (by omega) (by omega)).1, Option.bind_some, ← hc, happS _ _ (by omega), Option.bind_some, wrap_in (by omega) (by omega)]
      exact ⟨hn, _, rfl, by rw [hs]; simp only [Prod.mk.injEq, true_and]; omega⟩
    · rw [hf] at hc
      simp only at hc
      rw [if_pos (by omega), if_pos (by omega), Int.toNat_natCast, hx, Option.bind_some, ← hc, happS _ _ (by omega), Option.bind_some, wrap_in (by omega) (by omega)]
      exact ⟨hn, _, rfl, by rw [hs]; simp only [Prod.mk.injEq, true_and]; omega⟩
  · have : i = p.1.1.length - a := by omega
    subst this
    rw [if_neg (by omega)]; exact .inl rfl

open Classical in
theorem spec_CommittedPages_out (p : DPager) (hin : PagerIn p 1048576) : spec_CommittedPages p = some (outCP p) := by
  unfold spec_CommittedPages outCP
  simp only [l12Ok_out p hin, Option.bind_some, deq]
  by_cases h : PagerV p
  · rw [if_neg (by simpa using h), if_pos h, l12All_out p h hin]; rfl
  · rw [if_pos h, if_neg h]

open Classical in
theorem impl_CommittedPages_out (p : DPager) (hin : PagerIn p 1048576) : impl_CommittedPages p = some (outCP p) := by
  unfold impl_CommittedPages outCP
  simp only [ValidPager_out p hin, Option.bind_some, deq]
  by_cases h : PagerV p
  case neg => rw [if_pos h, if_neg h]
  rw [if_neg (by simpa using h), if_pos h, iArea_out p h, Option.bind_some]
  have ha := area_in h
  obtain ⟨a, hae⟩ : ∃ a : Nat, areaK p = a := ⟨(areaK p).toNat, by omega⟩
  have : impl_CommittedPages_l1 p.1.1 p.1.2.1 p.1.2.2.1 p.1.2.2.2 p.2.1.1 p.2.1.2.1 p.2.1.2.2.1 p.2.1.2.2.2 p.2.2.1 p.2.2.2.1 p.2.2.2.2.1 p.2.2.2.2.2 ([], areaK p) = some (pagesP p (p.1.1.length - (areaK p).toNat)) := by
    unfold impl_CommittedPages_l1
    rw [hae, Int.toNat_natCast]
    refine loop_some (p.1.1.length - a) (fun i s => s = (pagesP p i, (a : Int) + i)) (fun i s hi hs => ?_) (p.1.1.length - a) 0 _ (by omega) (by simp [pagesP])
    subst hs
    simp only [impl_CommittedPages_l1_b]
    have hl : (pagesP p i).length = i := by simp [pagesP]
    have hs : pagesP p (i + 1) = pagesP p i ++ [comP p (a + i)] := by simp [pagesP, List.range_succ, hae]
    by_cases hn : i < p.1.1.length - a
    · have hA : ((p.1.1, p.1.2.1, p.1.2.2.1, p.1.2.2.2), (p.2.1.1, p.2.1.2.1, p.2.1.2.2.1, p.2.1.2.2.2), p.2.2.1, p.2.2.2.1, p.2.2.2.2.1, p.2.2.2.2.2) = p := rfl
      rw [if_pos (by omega), hA, committed_out p _ h hin (by omega) (by omega), Option.bind_some, happS _ _ (by omega), Option.bind_some, wrap_in (by omega) (by omega)]
      exact .inr ⟨hn, _, rfl, by rw [hs]; simp only [Prod.mk.injEq, true_and]; omega⟩
    · have : i = p.1.1.length - a := by omega
      subst this
      rw [if_neg (by omega)]; exact .inl rfl
  rw [this]; rfl

theorem markPager_o71_out (a : DPager) (h : PagerIn a 1048576) : ∃ r, laws_markPager_o71 a.1.1 a.1.2.1 a.1.2.2.1 a.1.2.2.2 a.2.1.1 a.2.1.2.1 a.2.1.2.2.1 a.2.1.2.2.2 a.2.2.1 a.2.2.2.1 a.2.2.2.2.1 a.2.2.2.2.2 1 = some r ∧ r.1.length = a.1.1.length ∧ r.2.1.length = a.1.2.1.length ∧ r.2.2.1.length = a.2.2.2.2.1.length ∧ r.2.2.2.1.length = a.2.2.2.2.2.length ∧ ¬r.2.2.2.2 < 0 := by
  obtain ⟨h1, h2, h3, h4⟩ := h
  have hpg : ∀ (l : List (Int × Str)) (h : l.length ≤ 1048576) (K : Int) (h0 : 0 ≤ K) (hK : K ≤ 1073741824), ∃ m, laws_markPageS_o2a l K = some (m, K + 2 * l.length) ∧ m.length = l.length ∧ Marked ePut 2 K m := fun l h K h0 hK => markPutS_out l h K h0 hK
  obtain ⟨m1, e1, l1, _⟩ := markStringS_out a.1.1 h1 1 (by omega) (by omega)
  obtain ⟨m2, e2, l2, _⟩ := markPutS_out a.1.2.1 h2 (1 + a.1.1.length) (by omega) (by omega)
  obtain ⟨m3, e3, l3, _⟩ := hpg a.2.2.2.2.1 h3 (1 + a.1.1.length + 2 * a.1.2.1.length) (by omega) (by omega)
  obtain ⟨m4, e4, l4, _⟩ := hpg a.2.2.2.2.2 h4 (1 + a.1.1.length + 2 * a.1.2.1.length + 2 * a.2.2.2.2.1.length) (by omega) (by omega)
  simp only [laws_markPager_o71, laws_markDisk_o3e, e1, e2, l1, l2, fixLen_eq, Option.bind_some, if_true, and_self, e3, l3, e4, l4]
  exact ⟨_, rfl, l1, l2, l3, l4, by simp only; omega⟩

theorem FnExactCommittedPages_true (p : DPager) (h : Gd.ok p) : laws_FnExactCommittedPages p = some true := by
  unfold laws_FnExactCommittedPages
  obtain ⟨r, hr, hin⟩ := szPager_out p (pagerOk_of h)
  rw [hr, Option.bind_some]
  by_cases hneg : r < 0
  · rw [if_pos hneg]
  rw [if_neg hneg]
  have hin := hin (by omega)
  have hA : ((p.1.1, p.1.2.1, p.1.2.2.1, p.1.2.2.2), (p.2.1.1, p.2.1.2.1, p.2.1.2.2.1, p.2.1.2.2.2), p.2.2.1, p.2.2.2.1, p.2.2.2.2.1, p.2.2.2.2.2) = p := rfl
  have hS := spec_CommittedPages_out p hin
  have hI := impl_CommittedPages_out p hin
  obtain ⟨w, hw, w1, w2, w3, w4, w5⟩ := markPager_o71_out p hin
  have hol : (outCP p).1.length ≤ 1048576 := by
    unfold outCP; split
    · rename_i hp; have := area_in hp; simp [pagesP]; omega
    · simp
  generalize outCP p = o at hS hI hol
  obtain ⟨m, e, l, q⟩ := markStringS_out o.1 hol 1 (by omega) (by omega)
  have g := heldStringS_out m (by omega) 1 (by omega) (by omega) q
  rw [l] at g
  have u5 : ¬ (1 + (o.1.length : Int)) < 0 := by omega
  simp only [toPager_out p hin, Option.bind_some, flatP, hA, hS, hI, eqStringS_same _ hol, eqPager_same p hin, not_true_eq_false, if_false, hw, w1, w2, w3, w4, w5, and_self, if_true, e, l, fixLen_eq l, g, u5]
end Go.Proofs.TM
