/- The law of WriteSuper, on data. -/
import Derived.Test.YtmgkjmeoaegfaaaLEnc
import Derived.Test.YtmgkjmeoaegfaaaLDiskLaw
namespace Go.Proofs.TM
open Go Go.Proofs
set_option linter.unusedVariables false
set_option linter.unusedSimpArgs false
set_option maxHeartbeats 1000000

open Classical in
theorem superFits_out2 (d : DDisk) (s : DSuper) : impl_superFits d s = some (@decide (DiskV d ∧ SuperV s ∧ s.1 = (d.1.length : Int)) (Classical.propDecidable _)) := by
  unfold impl_superFits
  simp only [ValidDisk_out, iValidSuper_out, Option.bind_some, decide_eq_true_eq]
  split
  · split
    · exact dI (by simp_all)
    · exact dF (by simp_all)
  · exact dF (by simp_all)

abbrev DDOut := List Str × (List (Int × Str)) × Int × Bool × Int
/-- A disk that a block was written to. -/
def outB (d : DDisk) (k : Int) (b : Str) : DDOut :=
  if d.2.2.2 = true ∨ d.2.2.1 = 0 then (d.1, d.2.1, d.2.2.1, true, 13)
  else if 600 ≤ d.2.1.length then ([], [], 0, false, 5)
  else (d.1, d.2.1 ++ [(k, b)], if d.2.2.1 > 0 then d.2.2.1 - 1 else d.2.2.1, d.2.2.2, 0)
open Classical in
noncomputable def outWS (d : DDisk) (s : DSuper) : DDOut := if DiskV d ∧ SuperV s ∧ s.1 = (d.1.length : Int) then outB d (Int.tmod s.2.2.2 2) (encS s) else ([], [], 0, false, 1)

theorem turn2 {t : Int} (h : 0 ≤ t) : 0 ≤ Int.tmod t 2 ∧ Int.tmod t 2 ≤ 1 := by
  rw [Int.tmod_eq_emod_of_nonneg h]; omega

open Classical in
theorem spec_WriteBlock_out (d : DDisk) (k : Int) (b : Str) (hd : DiskV d) (hb : b.length = 64) (h0 : 0 ≤ k) (h1 : k ≤ (d.1.length : Int) - 1) : spec_WriteBlock d k b = some (outB d k b) := by
  obtain ⟨a1, a2, a3, a4, a5, a6, a7⟩ := hd
  unfold spec_WriteBlock outB
  rw [l09Ok_out, Option.bind_some, if_neg (by simp; exact ⟨a1, a2, a3, a4, a5, a6, a7⟩), if_neg (by omega), wrap_in (by omega) (by omega), l00In_out, Option.bind_some, if_neg (by simp; omega)]
  unfold spec_l09Own
  rw [appL_nil 16 _ (by unfold maxRow; omega), appL_nil 24 _ (by unfold maxRow; omega)]
  simp only [Option.bind_some, spec_l09Write_oe4]
  by_cases c1 : d.2.2.2 = true
  · simp [c1]
  have c1' : d.2.2.2 = false := by simpa using c1
  simp only [c1', Bool.false_eq_true, if_false, false_or]
  by_cases c2 : d.2.2.1 = 0
  · simp [c2]
  simp only [c2, if_false]
  by_cases c3 : 600 ≤ d.2.1.length
  · rw [if_pos (by omega), if_pos c3]; rfl
  rw [if_neg (by omega), if_neg c3]
  have happ : ∀ f : Int, appL 24 d.2.1 (lit [(k, b)]) = some (d.2.1 ++ [(k, b)]) := fun f => by unfold appL lit; rw [if_pos (by simp [maxRow]; omega)]
  simp only [spec_l09Power_o5d, Bool.false_eq_true, c2, if_false]
  by_cases c4 : d.2.2.1 > 0
  · simp [c4, happ 0, wrap_in (show -9223372036854775808 ≤ d.2.2.1 - 1 by omega) (by omega)]
  · simp [c4, happ 0]

open Classical in
theorem spec_WriteSuper_out (d : DDisk) (s : DSuper) : spec_WriteSuper d s = some (outWS d s) := by
  unfold spec_WriteSuper outWS
  rw [l09Ok_out, sValidSuper_out]
  simp only [Option.bind_some, deq]
  by_cases h1 : DiskV d
  case neg => simp [h1]
  by_cases h2 : SuperV s
  case neg => simp [h1, h2]
  by_cases h3 : s.1 = (d.1.length : Int)
  case neg => simp [h1, h2, h3]
  have ht := turn2 h2.2.2.2.2.2.2.2.1
  rw [if_neg (by simpa using h1), if_neg (by simpa using h2), if_neg (by simpa using h3), l10Encode_out s h2.sin, Option.bind_some, spec_WriteBlock_out d _ _ h1 (encS_length s) ht.1 (by have := h1.1; omega), if_pos ⟨h1, h2, h3⟩]
  rfl

open Classical in
theorem impl_WriteSuper_out (d : DDisk) (s : DSuper) : impl_WriteSuper d s = some (outWS d s) := by
  unfold impl_WriteSuper outWS
  rw [superFits_out2]
  simp only [Option.bind_some, deq]
  by_cases h : DiskV d ∧ SuperV s ∧ s.1 = (d.1.length : Int)
  case neg => rw [if_pos h, if_neg h]
  rw [if_neg (by simpa using h), if_pos h]
  obtain ⟨⟨a1, a2, a3, a4, a5, a6, a7⟩, h2, h3⟩ := h
  unfold impl_Disk_clone slices_Clone_impl_Put_impl_Put_ slices_Clone_string_string_
  rw [appL_nil 16 _ (by unfold maxRow; omega), appL_nil 24 _ (by unfold maxRow; omega)]
  simp only [Option.bind_some, impl_Disk_writeSuper_o49, encode_out, impl_Disk_write_oe4, impl_Disk_power_o5d]
  unfold outB
  have happ : ∀ f : Int, appL 24 d.2.1 (lit [(Int.tmod s.2.2.2 2, encS s)]) = some (d.2.1 ++ [(Int.tmod s.2.2.2 2, encS s)]) := fun f => by unfold appL lit; rw [if_pos (by simp [maxRow]; omega)]
  by_cases c1 : d.2.2.2 = true
  · simp [c1, impl_powered_o3e]
  have c1' : d.2.2.2 = false := by simpa using c1
  simp only [c1', Bool.false_eq_true, if_false, false_or]
  by_cases c2 : d.2.2.1 = 0
  · simp [c2, impl_powered_o3e]
  simp only [c2, if_false]
  by_cases c4 : d.2.2.1 > 0
  · simp only [c4, if_true, Option.bind_some, not_true_eq_false, if_false]
    by_cases c3 : 600 ≤ d.2.1.length
    · rw [if_pos (by omega), if_pos c3]; simp [impl_powered_o3e]
    · rw [if_neg (by omega), if_neg c3, happ 0]; simp [impl_powered_o3e, wrap_in (show -9223372036854775808 ≤ d.2.2.1 - 1 by omega) (by omega)]
  · simp only [c4, if_false, Option.bind_some, not_true_eq_false]
    by_cases c3 : 600 ≤ d.2.1.length
    · rw [if_pos (by omega), if_pos c3]; simp [impl_powered_o3e]
    · rw [if_neg (by omega), if_neg c3, happ 0]; simp [impl_powered_o3e]

theorem FnExactWriteSuper_true (d : DDisk) (s : DSuper) (hd : Gd.ok d) (hs : Gd.ok s) : laws_FnExactWriteSuper d s = some true := by
  unfold laws_FnExactWriteSuper
  obtain ⟨r, hr, hin⟩ := szDisk_out d (diskOk_of hd)
  rw [hr, Option.bind_some]
  by_cases hneg : r < 0
  · rw [if_pos hneg]
  rw [if_neg hneg]
  have hin := hin (by omega)
  have hA : (d.1, d.2.1, d.2.2.1, d.2.2.2) = d := rfl
  have hB : (s.1, s.2.1, s.2.2.1, s.2.2.2) = s := rfl
  generalize hO : outWS d s = o
  have hS := spec_WriteSuper_out d s
  have hI := impl_WriteSuper_out d s
  rw [hO] at hS hI
  have hoin : DiskIn (o.1, o.2.1, o.2.2.1, o.2.2.2.1) 1048576 := by
    rw [← hO]; unfold outWS outB
    split
    · rename_i h
      have := h.1.2.2.1
      split
      · exact hin
      split
      · exact ⟨by simp, by simp⟩
      · exact ⟨hin.1, by simp; omega⟩
    · exact ⟨by simp, by simp⟩
  obtain ⟨w, hw, w1, w2, w3, w4⟩ := markDisk_out d hin
  obtain ⟨u, hu, u1, u2, u3, u4⟩ := markDisk_out _ hoin
  simp only at u1 u2 u3 u4 hu
  have w5 : ¬w.2.2 < 0 := by omega
  have u5 : ¬u.2.2 < 0 := by omega
  simp only [toDisk_out d hin, laws_toSuper, Option.bind_some, hA, hB, hS, hI, eqDisk_same _ hoin, eqDisk_same d hin, not_true_eq_false, if_false, hw, w1, w2, w5, and_self, if_true, hu, u1, u2, u4, u5]
end Go.Proofs.TM
