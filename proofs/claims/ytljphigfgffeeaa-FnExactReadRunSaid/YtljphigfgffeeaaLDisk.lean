/- Disks: sizes, copies, comparisons, which are valid. -/
import Derived.Test.YtljphigfgffeeaaLBase
namespace Go.Proofs.TM
open Go Go.Proofs
set_option linter.unusedVariables false
set_option linter.unusedSimpArgs false
set_option maxHeartbeats 1000000

theorem szStringS_out (l : List Str) (h : StrsOk l) (L : Int) (h0 : 0 ≤ L) (h1 : L < 9223372036854775807) : laws_szStringS l L = some (-1) ∨ ∃ r, laws_szStringS l L = some r ∧ 0 ≤ r ∧ r ≤ L ∧ (l.length : Int) ≤ L := by
  obtain ⟨hl, hs⟩ := h
  unfold laws_szStringS
  rw [wrap_in (by omega) (by omega)]
  by_cases hc : L - (l.length : Int) < 0
  · rw [if_pos hc]; exact .inl rfl
  rw [if_neg hc]
  obtain ⟨r, hr, hx⟩ := loop_room l.length (fun s => laws_szStringS_l1_b l s.1 s.2) (L - l.length) (fun i k hi hk hkL => by
    obtain ⟨x, hx⟩ := get_at hi
    have hxl := hs x (List.mem_of_getElem? hx)
    simp only [laws_szStringS_l1_b, Int.ofNat_lt.2 hi, Int.natCast_nonneg, Int.toNat_natCast, hx, if_true, Option.bind_some, w1 (Nat.lt_of_lt_of_le hi hl)]
    rw [wrap_in (by omega) (by omega)]
    by_cases hc : k - (x.length : Int) < 0
    · rw [if_pos hc]; exact .inl rfl
    · rw [if_neg hc]; exact .inr ⟨_, by omega, by omega, rfl⟩) (fun k => by simp [laws_szStringS_l1_b]) (by omega)
  unfold laws_szStringS_l1
  rw [hr]
  rcases hx with rfl | ⟨k, rfl, ha, hb⟩
  · exact .inl rfl
  · exact .inr ⟨k, rfl, ha, by omega, by omega⟩

theorem szPutS_out (l : List (Int × Str)) (h : PutsOk l) (L : Int) (h0 : 0 ≤ L) (h1 : L < 9223372036854775807) : laws_szPutS l L = some (-1) ∨ ∃ r, laws_szPutS l L = some r ∧ 0 ≤ r ∧ r ≤ L ∧ (l.length : Int) ≤ L := by
  obtain ⟨hl, hs⟩ := h
  unfold laws_szPutS
  rw [wrap_in (by omega) (by omega)]
  by_cases hc : L - (l.length : Int) < 0
  · rw [if_pos hc]; exact .inl rfl
  rw [if_neg hc]
  obtain ⟨r, hr, hx⟩ := loop_room l.length (fun s => laws_szPutS_l1_b l s.1 s.2) (L - l.length) (fun i k hi hk hkL => by
    obtain ⟨x, hx⟩ := get_at hi
    have hxl := hs x (List.mem_of_getElem? hx)
    simp only [laws_szPutS_l1_b, laws_szPut, Int.ofNat_lt.2 hi, Int.natCast_nonneg, Int.toNat_natCast, hx, if_true, Option.bind_some, w1 (Nat.lt_of_lt_of_le hi hl)]
    rw [wrap_in (by omega) (by omega)]
    by_cases hc : k - (x.2.length : Int) < 0
    · simp only [if_pos hc]; exact .inl rfl
    · simp only [if_neg hc, Option.bind_some]; exact .inr ⟨_, by omega, by omega, rfl⟩) (fun k => by simp [laws_szPutS_l1_b]) (by omega)
  unfold laws_szPutS_l1
  rw [hr]
  rcases hx with rfl | ⟨k, rfl, ha, hb⟩
  · exact .inl rfl
  · exact .inr ⟨k, rfl, ha, by omega, by omega⟩
theorem toStringS_out (l : List Str) (h : l.length ≤ 1048576) : laws_toStringS l = some l := by
  unfold laws_toStringS laws_toStringS_l1
  rw [mkL_ok 16 _ _ (by unfold maxRow; omega) (by unfold maxRow; omega), Option.bind_some, loop_copy l (fun s => laws_toStringS_l1_b l s.1 s.2) (fun m i x hi hx hm => ?_) (fun m => ?_) _ (by simp), Option.bind_some]
  · obtain ⟨y, hy⟩ := get_at (l := m) (by omega : i < m.length)
    have hx' := (List.getElem?_eq_some_iff.1 hx).2
    simp [laws_toStringS_l1_b, hi, hx', hm, w1 (show i < 9223372036854775807 by omega)]
  · simp [laws_toStringS_l1_b]
theorem toPutS_out (l : List (Int × Str)) (h : l.length ≤ 1048576) : laws_toPutS l = some l := by
  unfold laws_toPutS laws_toPutS_l1
  rw [mkL_ok 24 _ _ (by unfold maxRow; omega) (by unfold maxRow; omega), Option.bind_some, loop_copy l (fun s => laws_toPutS_l1_b l s.1 s.2) (fun m i x hi hx hm => ?_) (fun m => ?_) _ (by simp), Option.bind_some]
  · obtain ⟨y, hy⟩ := get_at (l := m) (by omega : i < m.length)
    have hx' := (List.getElem?_eq_some_iff.1 hx).2
    simp [laws_toPutS_l1_b, laws_toPut, hi, hx', hm, w1 (show i < 9223372036854775807 by omega)]
  · simp [laws_toPutS_l1_b]
theorem eqStringS_same (l : List Str) (h : l.length ≤ 1048576) : laws_eqStringS l l = some true := by
  unfold laws_eqStringS laws_eqStringS_l1
  rw [if_neg (by simp), loop_eq l l rfl (fun s => laws_eqStringS_l1_b l l s) (.inl ()) (.inr false) (fun i x hi hx hx2 => by
    have hx' := (List.getElem?_eq_some_iff.1 hx).2
    simp [laws_eqStringS_l1_b, hi, hx', w1 (show i < 9223372036854775807 by omega)]) (fun i x y hi hx hy hxy => by
    rw [hx] at hy; cases hy; exact absurd rfl hxy) (by simp [laws_eqStringS_l1_b])]
  simp
theorem eqPutS_same (l : List (Int × Str)) (h : l.length ≤ 1048576) : laws_eqPutS l l = some true := by
  unfold laws_eqPutS laws_eqPutS_l1
  rw [if_neg (by simp), loop_eq l l rfl (fun s => laws_eqPutS_l1_b l l s) (.inl ()) (.inr false) (fun i x hi hx hx2 => by
    have hx' := (List.getElem?_eq_some_iff.1 hx).2
    simp [laws_eqPutS_l1_b, laws_eqPut, hi, hx', w1 (show i < 9223372036854775807 by omega)]) (fun i x y hi hx hy hxy => by
    rw [hx] at hy; cases hy; exact absurd rfl hxy) (by simp [laws_eqPutS_l1_b])]
  simp
theorem l00In_out (n a b : Int) : spec_l00In n a b = some (decide (a ≤ n ∧ n ≤ b)) := by
  unfold spec_l00In; by_cases h : n ≥ a
  · rw [if_pos h]; have : a ≤ n := h; simp [this]
  · rw [if_neg h]; have : ¬a ≤ n := h; simp [this]
theorem within_out (n a b : Int) : impl_within n a b = some (decide (a ≤ n ∧ n ≤ b)) := l00In_out n a b

def DiskV (d : DDisk) : Prop := 16 ≤ (d.1.length : Int) ∧ (d.1.length : Int) ≤ 256 ∧ (d.2.1.length : Int) ≤ 600 ∧ -1 ≤ d.2.2.1 ∧ d.2.2.1 ≤ 100000 ∧ (∀ x ∈ d.1, x.length = 64) ∧ ∀ p ∈ d.2.1, 0 ≤ p.1 ∧ p.1 ≤ (d.1.length : Int) - 1 ∧ p.2.length = 64
open Classical in
theorem l09Ok_out (d : DDisk) : spec_l09Ok d = some (decide (DiskV d)) := by
  unfold spec_l09Ok
  rw [l00In_out, Option.bind_some]
  by_cases h1 : 16 ≤ (d.1.length : Int) ∧ (d.1.length : Int) ≤ 256
  case neg => rw [if_pos (by simp [h1])]; exact dF fun h => h1 ⟨h.1, h.2.1⟩
  rw [if_neg (by simp [h1])]
  by_cases h2 : (d.2.1.length : Int) > 600
  case pos => rw [if_pos h2]; exact dF fun h => by have := h.2.2.1; omega
  rw [if_neg h2, l00In_out, Option.bind_some]
  by_cases h3 : -1 ≤ d.2.2.1 ∧ d.2.2.1 ≤ 100000
  case neg => rw [if_pos (by simp [h3])]; exact dF fun h => h3 ⟨h.2.2.2.1, h.2.2.2.2.1⟩
  rw [if_neg (by simp [h3])]
  unfold spec_l09Ok_l1
  rw [loop_mem d.1 (fun x => x.length = 64) (fun s => spec_l09Ok_l1_b d.1 d.2.1 d.2.2.1 d.2.2.2 d.1.length s) (.inl (d.1, d.2.1, d.2.2.1, d.2.2.2, (d.1.length : Int))) (.inr false) (fun i x hi hx hp => by
      have hx' := (List.getElem?_eq_some_iff.1 hx).2
      have hp' : (x.length : Int) = 64 := by omega
      simp [spec_l09Ok_l1_b, hi, hx', hp', w1 (show i < 9223372036854775807 by omega)]) (fun i x hi hx hp => by
      have hx' := (List.getElem?_eq_some_iff.1 hx).2
      have hp' : ¬(x.length : Int) = 64 := by omega
      simp [spec_l09Ok_l1_b, hi, hx', hp']) (by simp [spec_l09Ok_l1_b])]
  by_cases h4 : ∀ x ∈ d.1, x.length = 64
  case neg => rw [if_neg h4]; exact dF fun h => h4 h.2.2.2.2.2.1
  rw [if_pos h4]
  simp only [Option.bind_some, Sum.elim_inl]
  unfold spec_l09Ok_l2
  rw [loop_mem d.2.1 (fun p => 0 ≤ p.1 ∧ p.1 ≤ (d.1.length : Int) - 1 ∧ p.2.length = 64) (fun s => spec_l09Ok_l2_b d.1 d.2.1 d.2.2.1 d.2.2.2 d.1.length s) (.inl ()) (.inr false) (fun i x hi hx hp => by
      have hx' := (List.getElem?_eq_some_iff.1 hx).2
      have hp' : (x.2.length : Int) = 64 := by omega
      simp [spec_l09Ok_l2_b, hi, hx', hp', hp.1, hp.2.1, l00In_out, wrap_in (show -9223372036854775808 ≤ (d.1.length : Int) - 1 by omega) (by omega), w1 (show i < 9223372036854775807 by omega)]) (fun i x hi hx hp => by
      have hx' := (List.getElem?_eq_some_iff.1 hx).2
      simp [spec_l09Ok_l2_b, hi, hx', l00In_out, wrap_in (show -9223372036854775808 ≤ (d.1.length : Int) - 1 by omega) (by omega)]
      by_cases hq : 0 ≤ x.1 ∧ x.1 ≤ (d.1.length : Int) - 1
      · have hp' : ¬(x.2.length : Int) = 64 := fun h => hp ⟨hq.1, hq.2, by omega⟩
        simp [hq.1, hq.2, hp']
      · intro a b; exact absurd ⟨a, b⟩ hq) (by simp [spec_l09Ok_l2_b])]
  by_cases h5 : ∀ p ∈ d.2.1, 0 ≤ p.1 ∧ p.1 ≤ (d.1.length : Int) - 1 ∧ p.2.length = 64
  · rw [if_pos h5]; exact dT ⟨h1.1, h1.2, by omega, h3.1, h3.2, h4, h5⟩
  · rw [if_neg h5]; exact dF fun h => h5 h.2.2.2.2.2.2

open Classical in
theorem ValidDisk_out (d : DDisk) : impl_ValidDisk d = some (decide (DiskV d)) := by
  unfold impl_ValidDisk
  rw [within_out, Option.bind_some]
  by_cases h1 : 16 ≤ (d.1.length : Int) ∧ (d.1.length : Int) ≤ 256
  case neg => rw [if_pos (by simp [h1])]; exact dF fun h => h1 ⟨h.1, h.2.1⟩
  rw [if_neg (by simp [h1])]
  by_cases h2 : (d.2.1.length : Int) > 600
  case pos => rw [if_pos h2]; exact dF fun h => by have := h.2.2.1; omega
  rw [if_neg h2, within_out, Option.bind_some]
  by_cases h3 : -1 ≤ d.2.2.1 ∧ d.2.2.1 ≤ 100000
  case neg => rw [if_pos (by simp [h3])]; exact dF fun h => h3 ⟨h.2.2.2.1, h.2.2.2.2.1⟩
  rw [if_neg (by simp [h3])]
  unfold slices_ContainsFunc_string_string__ValidDisk_c1 slices_IndexFunc_string_string__ValidDisk_c1 slices_IndexFunc_string_string__ValidDisk_c1_l1
  obtain ⟨r, hr, hx⟩ := loop_find d.1 (fun x => x.length = 64) (fun s => slices_IndexFunc_string_string__ValidDisk_c1_l1_b d.1 d.1.length s) () (fun i x hi hx hp => by
      have hx' := (List.getElem?_eq_some_iff.1 hx).2
      have hp' : (x.length : Int) = 64 := by omega
      simp [slices_IndexFunc_string_string__ValidDisk_c1_l1_b, impl_ValidDisk_c1, impl_isBlock, hi, hx', hp', w1 (show i < 9223372036854775807 by omega)]) (fun i x hi hx hp => by
      have hx' := (List.getElem?_eq_some_iff.1 hx).2
      have hp' : ¬(x.length : Int) = 64 := by omega
      simp [slices_IndexFunc_string_string__ValidDisk_c1_l1_b, impl_ValidDisk_c1, impl_isBlock, hi, hx', hp']) (by simp [slices_IndexFunc_string_string__ValidDisk_c1_l1_b])
  rw [hr]
  rcases hx with ⟨rfl, h4⟩ | ⟨k, rfl, hk, h4⟩
  case inr => simp [hk]; exact fun h => h4 h.2.2.2.2.2.1
  simp only [Option.bind_some, Sum.elim_inl]
  rw [if_neg (by simp)]
  unfold slices_ContainsFunc_impl_Put_impl_Put__ValidDisk_c2 slices_IndexFunc_impl_Put_impl_Put__ValidDisk_c2 slices_IndexFunc_impl_Put_impl_Put__ValidDisk_c2_l1
  obtain ⟨r, hr, hx⟩ := loop_find d.2.1 (fun p => 0 ≤ p.1 ∧ p.1 ≤ (d.1.length : Int) - 1 ∧ p.2.length = 64) (fun s => slices_IndexFunc_impl_Put_impl_Put__ValidDisk_c2_l1_b d.2.1 d.1 d.2.1 d.2.2.1 d.2.2.2 d.2.1.length s) () (fun i x hi hx hp => by
      have hx' := (List.getElem?_eq_some_iff.1 hx).2
      have hp' : (x.2.length : Int) = 64 := by omega
      simp [slices_IndexFunc_impl_Put_impl_Put__ValidDisk_c2_l1_b, impl_ValidDisk_c2, impl_isIndex, within_out, impl_isBlock, hi, hx', hp', hp.1, hp.2.1, wrap_in (show -9223372036854775808 ≤ (d.1.length : Int) - 1 by omega) (by omega), w1 (show i < 9223372036854775807 by omega)]) (fun i x hi hx hp => by
      have hx' := (List.getElem?_eq_some_iff.1 hx).2
      simp [slices_IndexFunc_impl_Put_impl_Put__ValidDisk_c2_l1_b, impl_ValidDisk_c2, impl_isIndex, within_out, impl_isBlock, hi, hx', wrap_in (show -9223372036854775808 ≤ (d.1.length : Int) - 1 by omega) (by omega)]
      by_cases hq : 0 ≤ x.1 ∧ x.1 ≤ (d.1.length : Int) - 1
      · have hp' : ¬(x.2.length : Int) = 64 := fun h => hp ⟨hq.1, hq.2, by omega⟩
        simp [hq.1, hq.2, hp']
      · intro a b; exact absurd ⟨a, b⟩ hq) (by simp [slices_IndexFunc_impl_Put_impl_Put__ValidDisk_c2_l1_b])
  rw [hr]
  rcases hx with ⟨rfl, h5⟩ | ⟨k, rfl, hk, h5⟩
  · simp; exact ⟨h1.1, h1.2, by omega, h3.1, h3.2, h4, h5⟩
  · simp [hk]; exact fun h => h5 h.2.2.2.2.2.2

end Go.Proofs.TM
