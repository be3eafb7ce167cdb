/- The law of FreeRuns, on data. -/
import Derived.Test.YtmgkjmeoaegfaabLRuns
import Derived.Test.YtmgkjmeoaegfaabLPagerLaw
namespace Go.Proofs.TM
open Go Go.Proofs
set_option linter.unusedVariables false
set_option linter.unusedSimpArgs false
set_option maxHeartbeats 1000000

theorem eqRunS_same (l : List (Int × Int)) (h : l.length ≤ 1048576) : laws_eqRunS l l = some true := by
  unfold laws_eqRunS laws_eqRunS_l1
  rw [if_neg (by simp), loop_eq l l rfl (fun s => laws_eqRunS_l1_b l l s) (.inl ()) (.inr false) (fun i x hi hx hx2 => by
    have hx' := (List.getElem?_eq_some_iff.1 hx).2
    simp [laws_eqRunS_l1_b, laws_eqRun, hi, hx', w1 (show i < 9223372036854775807 by omega)]) (fun i x y hi hx hy hxy => by
    rw [hx] at hy; cases hy; exact absurd rfl hxy) (by simp [laws_eqRunS_l1_b])]
  simp
def eRun (k : Int) : Int × Int := (k, k + 1)
theorem markRunS_out (l : List (Int × Int)) (h : l.length ≤ 1048576) (K : Int) (h0 : 0 ≤ K) (hK : K ≤ 1073741824) : ∃ m, laws_markRunS_oaf l K = some (m, K + 2 * l.length) ∧ m.length = l.length ∧ Marked eRun 2 K m := by
  unfold laws_markRunS_oaf laws_markRunS_oaf_l1
  obtain ⟨m, h1, h2, h3⟩ := loop_mark 2 eRun l.length K (fun s => laws_markRunS_oaf_l1_b s.1 s.2.1 s.2.2) (fun m i k hi hm hk => by
    obtain ⟨y, hy⟩ := get_at (l := m) (by omega : i < m.length)
    simp [laws_markRunS_oaf_l1_b, hi, hm, hy, w1 (show i < 9223372036854775807 by omega), wrap_in (show -9223372036854775808 ≤ k + 1 by omega) (by omega), wrap_in (show -9223372036854775808 ≤ k + 2 by omega) (by omega), eRun, Int.add_assoc]) (fun m k hm => by simp [laws_markRunS_oaf_l1_b, hm]) l rfl
  exact ⟨m, by rw [h1]; simp, h2, by unfold Marked; rw [h2]; exact h3⟩
theorem heldRunS_out (l : List (Int × Int)) (h : l.length ≤ 1048576) (K : Int) (h0 : 0 ≤ K) (hK : K ≤ 1073741824) (hm : Marked eRun 2 K l) : laws_heldRunS l K = some (K + 2 * l.length) := by
  unfold laws_heldRunS laws_heldRunS_l1
  rw [loop_held 2 l.length K (fun s => laws_heldRunS_l1_b l s.1 s.2) (fun i k hi hk => by
    have hg := hm i hi
    rw [← hk] at hg
    have hg' := (List.getElem?_eq_some_iff.1 hg).2
    simp [laws_heldRunS_l1_b, hi, hg', eRun, w1 (show i < 9223372036854775807 by omega), wrap_in (show -9223372036854775808 ≤ k + 1 by omega) (by omega), wrap_in (show -9223372036854775808 ≤ k + 2 by omega) (by omega), Int.add_assoc]) (fun k => by simp [laws_heldRunS_l1_b])]
  simp

open Classical in
theorem spec_FreeRuns_out (p : DPager) (hin : PagerIn p 1048576) : spec_FreeRuns p = some (if PagerV p then runsP p else []) := by
  unfold spec_FreeRuns
  simp only [l12Ok_out p hin, Option.bind_some, deq]
  by_cases h : PagerV p
  · rw [if_neg (by simpa using h), if_pos h, l13Runs_out p h hin]; rfl
  · rw [if_pos h, if_neg h]

open Classical in
theorem FnExactFreeRuns_true (p : DPager) (h : Gd.ok p) : laws_FnExactFreeRuns p = some true := by
  unfold laws_FnExactFreeRuns
  obtain ⟨r, hr, hin⟩ := szPager_out p (pagerOk_of h)
  rw [hr, Option.bind_some]
  by_cases hneg : r < 0
  · rw [if_pos hneg]
  rw [if_neg hneg]
  have hin := hin (by omega)
  have hS := spec_FreeRuns_out p hin
  have hI := iFreeRuns_out p hin
  have hol : (if PagerV p then runsP p else [] : List (Int × Int)).length ≤ 1048576 := by
    split
    · rename_i hp; have := runsP_len hp; omega
    · simp
  generalize (if PagerV p then runsP p else [] : List (Int × Int)) = o at hS hI hol
  obtain ⟨w, hw, w1, w2, w3, w4, w5, w6⟩ := markPager_out p hin
  obtain ⟨m, e, l, q⟩ := markRunS_out o hol 1 (by omega) (by omega)
  have g := heldRunS_out m (by omega) 1 (by omega) (by omega) q
  rw [l] at g
  have u5 : ¬ (1 + 2 * (o.length : Int)) < 0 := by omega
  simp only [toPager_out p hin, Option.bind_some, flatP, pg_eta, hS, hI, eqRunS_same _ hol, eqPager_same p hin, not_true_eq_false, if_false, hw, w1, w2, w3, w4, w5, and_self, if_true, e, l, fixLen_eq l, g, u5]
end Go.Proofs.TM
