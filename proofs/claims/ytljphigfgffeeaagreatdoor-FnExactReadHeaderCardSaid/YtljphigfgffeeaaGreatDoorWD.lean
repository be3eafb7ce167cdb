import Derived.Test.YtljphigfgffeeaaGreatDoorWC
namespace Go.Proofs.TM
open Go Go.Proofs
set_option linter.unusedVariables false
set_option linter.unusedSimpArgs false
set_option maxHeartbeats 1000000
theorem eqMsg_out (a b : DMsg) : laws_eqMessage a b = some (decide (a = b)) := by
 unfold laws_eqMessage
 obtain ⟨a1, a2, a3⟩ := a
 obtain ⟨b1, b2, b3⟩ := b
 by_cases h1 : a1 = b1 <;> by_cases h2 : a2 = b2 <;> by_cases h3 : a3 = b3 <;> simp [h1, h2, h3]
theorem eqMsgS_same (l : List DMsg) (h : l.length ≤ 1048576) : laws_eqMessageS l l = some true := by
 unfold laws_eqMessageS laws_eqMessageS_l1
 rw [if_neg (by simp), loop_eq l l rfl (fun s => laws_eqMessageS_l1_b l l s) (.inl ()) (.inr false) (fun i x hi hx hx2 => by
  have hx' := (List.getElem?_eq_some_iff.1 hx).2
  simp [laws_eqMessageS_l1_b, eqMsg_out, hi, hx', w1 (show i < 9223372036854775807 by omega)]) (fun i x y hi hx hy hxy => by
  rw [hx] at hy; cases hy; exact absurd rfl hxy) (by simp [laws_eqMessageS_l1_b])]
 simp
theorem eqHeader_same (a : DHdr) (h : a.2.2.length ≤ 1048576) : laws_eqHeader a a = some true := by
 simp [laws_eqHeader, eqMsgS_same _ h]
noncomputable def eMsg (k : Int) : DMsg := (k, k + 1, mt (k + 2))
theorem markMsgS_out (l : List DMsg) (h : l.length ≤ 1048576) (K : Int) (h0 : 0 ≤ K) (hK : K ≤ 1073741824) : ∃ m, laws_markMessageS_o71 l K = some (m, K + 3 * l.length) ∧ m.length = l.length := by
 unfold laws_markMessageS_o71 laws_markMessageS_o71_l1
 obtain ⟨m, h1, h2, h3⟩ := loop_mark 3 eMsg l.length K (fun s => laws_markMessageS_o71_l1_b s.1 s.2.1 s.2.2) (fun m i k hi hm hk => by
  obtain ⟨y, hy⟩ := get_at (l := m) (by omega : i < m.length)
  simp [laws_markMessageS_o71_l1_b, hi, hm, hy, w1 (show i < 9223372036854775807 by omega), wrap_in (show -9223372036854775808 ≤ k + 1 by omega) (by omega), markText_mt (show k + 2 ≤ 1099511627776 by omega), wrap_in (show -9223372036854775808 ≤ k + 2 by omega) (by omega), wrap_in (show -9223372036854775808 ≤ k + 3 by omega) (by omega), eMsg, Int.add_assoc]) (fun m k hm => by simp [laws_markMessageS_o71_l1_b, hm]) l rfl
 exact ⟨m, by rw [h1]; simp, h2⟩
theorem markHeader_out (a : DHdr) (h : a.2.2.length ≤ 1048576) (K : Int) (h0 : 0 ≤ K) (hK : K ≤ 1073741824) : ∃ r, laws_markHeader_o63 a.1 a.2.1 a.2.2 K = some r ∧ r.1.length = a.2.2.length ∧ ¬ r.2 < 0 := by
 obtain ⟨m, h1, h2⟩ := markMsgS_out a.2.2 h K h0 hK
 refine ⟨(m, K + 3 * a.2.2.length), ?_, h2, by simp only; omega⟩
 simp only [laws_markHeader_o63, h1, Option.bind_some, h2, if_true, fixLen_eq h2]
end Go.Proofs.TM
namespace Go.Proofs.TM
open Go Go.Proofs
set_option linter.unusedVariables false
set_option linter.unusedSimpArgs false
set_option maxHeartbeats 1000000
theorem markMsgS_m (l : List DMsg) (h : l.length ≤ 1048576) (K : Int) (h0 : 0 ≤ K) (hK : K ≤ 1073741824) : ∃ m, laws_markMessageS_o71 l K = some (m, K + 3 * l.length) ∧ m.length = l.length ∧ Marked eMsg 3 K m := by
 unfold laws_markMessageS_o71 laws_markMessageS_o71_l1
 obtain ⟨m, h1, h2, h3⟩ := loop_mark 3 eMsg l.length K (fun s => laws_markMessageS_o71_l1_b s.1 s.2.1 s.2.2) (fun m i k hi hm hk => by
  obtain ⟨y, hy⟩ := get_at (l := m) (by omega : i < m.length)
  simp [laws_markMessageS_o71_l1_b, hi, hm, hy, w1 (show i < 9223372036854775807 by omega), wrap_in (show -9223372036854775808 ≤ k + 1 by omega) (by omega), markText_mt (show k + 2 ≤ 1099511627776 by omega), wrap_in (show -9223372036854775808 ≤ k + 2 by omega) (by omega), wrap_in (show -9223372036854775808 ≤ k + 3 by omega) (by omega), eMsg, Int.add_assoc]) (fun m k hm => by simp [laws_markMessageS_o71_l1_b, hm]) l rfl
 exact ⟨m, by rw [h1]; simp, h2, by unfold Marked; rw [h2]; exact h3⟩
theorem heldMsgS_out (l : List DMsg) (h : l.length ≤ 1048576) (K : Int) (h0 : 0 ≤ K) (hK : K ≤ 1073741824) (hm : Marked eMsg 3 K l) : laws_heldMessageS l K = some (K + 3 * l.length) := by
 unfold laws_heldMessageS laws_heldMessageS_l1
 rw [loop_held 3 l.length K (fun s => laws_heldMessageS_l1_b l s.1 s.2) (fun i k hi hk => by
  have hg := hm i hi
  rw [← hk] at hg
  have hg' := (List.getElem?_eq_some_iff.1 hg).2
  simp [laws_heldMessageS_l1_b, hi, hg', eMsg, w1 (show i < 9223372036854775807 by omega), wrap_in (show -9223372036854775808 ≤ k + 1 by omega) (by omega), wrap_in (show -9223372036854775808 ≤ k + 2 by omega) (by omega), wrap_in (show -9223372036854775808 ≤ k + 3 by omega) (by omega), markText_mt (show k + 2 ≤ 1099511627776 by omega), Int.add_assoc]) (fun k => by simp [laws_heldMessageS_l1_b])]
 simp
theorem markHdr_m (a : DHdr) (h : a.2.2.length ≤ 1048576) : ∃ r, laws_markHeader_o63 a.1 a.2.1 a.2.2 1 = some r ∧ r.1.length = a.2.2.length ∧ ¬ r.2 < 0 ∧ laws_heldHeader (a.1, a.2.1, fixLen a.2.2 r.1) 1 = some r.2 := by
 obtain ⟨m, h1, h2, h3⟩ := markMsgS_m a.2.2 h 1 (by omega) (by omega)
 refine ⟨(m, 1 + 3 * a.2.2.length), ?_, h2, by simp only; omega, ?_⟩
 ·simp only [laws_markHeader_o63, h1, Option.bind_some, h2, if_true, fixLen_eq h2]
 ·have := heldMsgS_out m (by omega) 1 (by omega) (by omega) h3
  simp only [laws_heldHeader, fixLen_eq h2, this, Option.bind_some, h2]
  rw [if_neg (by omega)]
end Go.Proofs.TM
namespace Go.Proofs.TM
open Go Go.Proofs
set_option linter.unusedVariables false
set_option linter.unusedSimpArgs false
set_option maxHeartbeats 1000000
open Classical in
theorem ReadHeader_two (p : DPager) (k : Int) (hin : PagerIn p 1048576) : ∃ o, spec_ReadHeader p k = some o ∧ impl_ReadHeader p k = some o ∧ o.1.2.2.length ≤ 1048576 := by
 unfold spec_ReadHeader impl_ReadHeader
 simp only [l12Ok_out p hin, ValidPager_out p hin, Option.bind_some, deq]
 by_cases hp : PagerV p
 case neg => rw [if_pos hp, if_pos hp]; exact ⟨_, rfl, rfl, by simp⟩
 rw [if_neg (Classical.not_not.2 hp), if_neg (Classical.not_not.2 hp)]
 unfold spec_l14Read impl_Pager_header
 obtain ⟨o, h1, h2, h4, h3, _, _⟩ := chain_two p hp hin k
 rw [h1, h2]
 simp only [Option.bind_some]
 by_cases hc : o.2.2 = true
 ·simp only [hc, not_true_eq_false, if_false, Option.bind_some]
  have := (h4 hc).1.2.2.1
  exact ⟨_, rfl, rfl, by simp only; omega⟩
 ·simp only [if_pos hc, Option.bind_some]; exact ⟨_, rfl, rfl, by simp⟩
theorem FnExactReadHeader_true (p : DPager) (k : Int) (h : Gd.ok p) (_ : Gd.ok k) : laws_FnExactReadHeader p k = some true := by
 unfold laws_FnExactReadHeader
 obtain ⟨r, hr, hle, hin⟩ := szPager_le p (pagerOk_of h)
 rw [hr, Option.bind_some]
 by_cases hneg : r < 0
 ·rw [if_pos hneg]
 rw [if_neg hneg]
 have hin := hin (by omega)
 obtain ⟨o, hS, hI, hol⟩ := ReadHeader_two p k hin
 obtain ⟨w, hw, w1, w2, w3, w4, w5⟩ := markPager_mk p hin
 have hw5 : ¬ w.2.2.2.2 < 0 := by omega
 obtain ⟨m, m1, m2, m3, m4⟩ := markHdr_m o.1 hol
 simp only [toPager_out p hin, Option.bind_some, hS, hI, eqPager_same p hin, eqHeader_same o.1 hol, not_true_eq_false, if_false, hw, w1, w2, w3, w4, hw5, and_self, if_true, m1, m2, m3, m4]
end Go.Proofs.TM
