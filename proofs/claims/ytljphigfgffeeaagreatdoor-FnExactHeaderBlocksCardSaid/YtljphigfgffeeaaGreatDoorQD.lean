import Derived.Test.YtljphigfgffeeaaGreatDoorQA
import Derived.Test.YtljphigfgffeeaaGreatDoorQC
namespace Go.Proofs.TM
open Go Go.Proofs
set_option linter.unusedVariables false
set_option linter.unusedSimpArgs false
set_option maxHeartbeats 1000000
theorem eqInts_same (l : List Int) (h : l.length ≤ 1048576) : laws_eqInt64S l l = some true := by
 unfold laws_eqInt64S laws_eqInt64S_l1
 rw [if_neg (by simp), loop_eq l l rfl (fun s => laws_eqInt64S_l1_b l l s) (.inl ()) (.inr false) (fun i x hi hx hx2 => by
  have hx' := (List.getElem?_eq_some_iff.1 hx).2
  simp [laws_eqInt64S_l1_b, hi, hx', w1 (show i < 9223372036854775807 by omega)]) (fun i x y hi hx hy hxy => by
  rw [hx] at hy; cases hy; exact absurd rfl hxy) (by simp [laws_eqInt64S_l1_b])]
 simp
def eInt (k : Int) : Int := k
theorem markInts_out (l : List Int) (h : l.length ≤ 1048576) (K : Int) (h0 : 0 ≤ K) (hK : K ≤ 1073741824) : ∃ m, laws_markInt64S_o5f l K = some (m, K + l.length) ∧ m.length = l.length ∧ Marked eInt 1 K m := by
 unfold laws_markInt64S_o5f laws_markInt64S_o5f_l1
 obtain ⟨m, h1, h2, h3⟩ := loop_mark 1 eInt l.length K (fun s => laws_markInt64S_o5f_l1_b s.1 s.2.1 s.2.2) (fun m i k hi hm hk => by
  obtain ⟨y, hy⟩ := get_at (l := m) (by omega : i < m.length)
  simp [laws_markInt64S_o5f_l1_b, hi, hm, hy, w1 (show i < 9223372036854775807 by omega), wrap_in (show -9223372036854775808 ≤ k + 1 by omega) (by omega), eInt]) (fun m k hm => by simp [laws_markInt64S_o5f_l1_b, hm]) l rfl
 exact ⟨m, by rw [h1]; simp, h2, by unfold Marked; rw [h2]; exact h3⟩
theorem heldInts_out (l : List Int) (h : l.length ≤ 1048576) (K : Int) (h0 : 0 ≤ K) (hK : K ≤ 1073741824) (hm : Marked eInt 1 K l) : laws_heldInt64S l K = some (K + l.length) := by
 unfold laws_heldInt64S laws_heldInt64S_l1
 rw [loop_held 1 l.length K (fun s => laws_heldInt64S_l1_b l s.1 s.2) (fun i k hi hk => by
  have hg := hm i hi
  rw [← hk] at hg
  have hg' := (List.getElem?_eq_some_iff.1 hg).2
  simp [laws_heldInt64S_l1_b, hi, hg', eInt, w1 (show i < 9223372036854775807 by omega), wrap_in (show -9223372036854775808 ≤ k + 1 by omega) (by omega)]) (fun k => by simp [laws_heldInt64S_l1_b])]
 simp
end Go.Proofs.TM
namespace Go.Proofs.TM
open Go Go.Proofs
set_option linter.unusedVariables false
set_option linter.unusedSimpArgs false
set_option maxHeartbeats 1000000
open Classical in
theorem HeaderBlocks_two (p : DPager) (k : Int) (hin : PagerIn p 1048576) : ∃ o, spec_HeaderBlocks p k = some o ∧ impl_HeaderBlocks p k = some o ∧ o.1.length ≤ 256 := by
 unfold spec_HeaderBlocks impl_HeaderBlocks
 simp only [l12Ok_out p hin, ValidPager_out p hin, Option.bind_some, deq]
 by_cases hp : PagerV p
 case neg => rw [if_pos hp, if_pos hp]; exact ⟨_, rfl, rfl, by simp⟩
 rw [if_neg (Classical.not_not.2 hp), if_neg (Classical.not_not.2 hp)]
 obtain ⟨o, h1, h2, _, h3, _, _⟩ := chain_two p hp hin k
 rw [h1, h2]
 simp only [Option.bind_some]
 by_cases hc : o.2.2 = true
 ·simp only [hc, not_true_eq_false, if_false]; exact ⟨_, rfl, rfl, h3⟩
 ·simp only [if_pos hc]; exact ⟨_, rfl, rfl, by simp⟩
theorem FnExactHeaderBlocks_true (p : DPager) (k : Int) (h : Gd.ok p) (_ : Gd.ok k) : laws_FnExactHeaderBlocks p k = some true := by
 unfold laws_FnExactHeaderBlocks
 obtain ⟨r, hr, hle, hin⟩ := szPager_le p (pagerOk_of h)
 rw [hr, Option.bind_some]
 by_cases hneg : r < 0
 ·rw [if_pos hneg]
 rw [if_neg hneg]
 have hin := hin (by omega)
 obtain ⟨o, hS, hI, hol⟩ := HeaderBlocks_two p k hin
 obtain ⟨w, hw, w1, w2, w3, w4, w5⟩ := markPager_mk p hin
 obtain ⟨m, m1, m2, m3⟩ := markInts_out o.1 (by omega) 1 (by omega) (by omega)
 have m4 := heldInts_out m (by omega) 1 (by omega) (by omega) m3
 rw [m2] at m4
 have hge : ¬ (1 + (o.1.length : Int)) < 0 := by omega
 have hw5 : ¬ w.2.2.2.2 < 0 := by omega
 simp only [toPager_out p hin, Option.bind_some, hS, hI, eqPager_same p hin, eqInts_same o.1 (by omega), not_true_eq_false, if_false, hw, w1, w2, w3, w4, hw5, and_self, if_true, m1, m2, fixLen_eq m2, m4, hge]
end Go.Proofs.TM
