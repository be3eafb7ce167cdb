/- The superblock that a disk has. -/
import Derived.Test.YtmgkjmeoaegfaaaLDec
import Derived.Test.YtmgkjmeoaegfaaaLRead
namespace Go.Proofs.TM
open Go Go.Proofs
set_option linter.unusedVariables false
set_option linter.unusedSimpArgs false
set_option maxHeartbeats 1000000

open Classical in
/-- The superblock in a slot. -/
noncomputable def slotS (d : DDisk) (k : Int) : Int × Int × Int × Int × Bool :=
  if (decS (rdD d k)).2.2.2.2 = true ∧ (decS (rdD d k)).1 = (d.1.length : Int) ∧ Int.tmod (decS (rdD d k)).2.2.2.1 2 = k then ((decS (rdD d k)).1, (decS (rdD d k)).2.1, (decS (rdD d k)).2.2.1, (decS (rdD d k)).2.2.2.1, true) else (0, 0, 0, 0, false)
open Classical in
/-- The superblock of a disk, if it has one. -/
noncomputable def choS (d : DDisk) : Int × Int × Int × Int × Bool :=
  if (slotS d 0).2.2.2.2 = true ∧ ¬ ((slotS d 1).2.2.2.2 = true ∧ (slotS d 0).2.2.2.1 < (slotS d 1).2.2.2.1) then slotS d 0 else slotS d 1
open Classical in
noncomputable def outC (d : DDisk) : Int × Int × Int × Int × Int := if DiskV d then (if (choS d).2.2.2.2 = true then ((choS d).1, (choS d).2.1, (choS d).2.2.1, (choS d).2.2.2.1, 0) else (0, 0, 0, 0, 10)) else (0, 0, 0, 0, 1)

theorem slotS_tmod {d : DDisk} {k : Int} (h : (slotS d k).2.2.2.2 = true) : Int.tmod (slotS d k).2.2.2.1 2 = k := by
  unfold slotS at *
  split
  · rename_i q; exact q.2.2
  · rename_i q; rw [if_neg q] at h; cases h
theorem slotS_zero {d : DDisk} {k : Int} (h : ¬ (slotS d k).2.2.2.2 = true) : slotS d k = (0, 0, 0, 0, false) := by
  unfold slotS at *
  split
  · rename_i q; rw [if_pos q] at h; exact absurd rfl h
  · rfl

open Classical in
theorem l10Slot_out (d : DDisk) (k : Int) (hd : DiskV d) (h0 : 0 ≤ k) (h1 : k < (d.1.length : Int)) : spec_l10Slot d k = some (slotS d k) := by
  obtain ⟨r1, r2⟩ := readD_out d k hd h0 h1
  unfold spec_l10Slot slotS
  rw [l09Read_out d k (by have := hd.2.2.1; omega), r1, Option.bind_some, sDecode_out _ r2, Option.bind_some]
  generalize decS (rdD d k) = r
  by_cases c1 : r.2.2.2.2 = true
  case neg => rw [if_pos c1, if_neg (fun q => c1 q.1)]
  rw [if_neg (by simpa using c1)]
  by_cases c2 : r.1 = (d.1.length : Int)
  case neg => rw [if_pos c2, if_neg (fun q => c2 q.2.1)]
  rw [if_neg (by simpa using c2)]
  by_cases c3 : Int.tmod r.2.2.2.1 2 = k
  case neg => rw [if_pos c3, if_neg (fun q => c3 q.2.2)]
  rw [if_neg (by simpa using c3), if_pos ⟨c1, c2, c3⟩]

theorem l10Choose_out (d : DDisk) (hd : DiskV d) : spec_l10Choose d = some (if (choS d).2.2.2.2 = true then ((choS d).1, (choS d).2.1, (choS d).2.2.1, (choS d).2.2.2.1, 0) else (0, 0, 0, 0, 10)) := by
  unfold spec_l10Choose
  have hl := hd.1
  rw [l10Slot_out d 0 hd (by omega) (by omega), l10Slot_out d 1 hd (by omega) (by omega), Option.bind_some, Option.bind_some]
  have t0 := slotS_tmod (d := d) (k := 0)
  have t1 := slotS_tmod (d := d) (k := 1)
  have hch : choS d = (if (slotS d 0).2.2.2.2 = true ∧ ¬ ((slotS d 1).2.2.2.2 = true ∧ (slotS d 0).2.2.2.1 < (slotS d 1).2.2.2.1) then slotS d 0 else slotS d 1) := by
    unfold choS; congr
  generalize slotS d 0 = a at *
  generalize slotS d 1 = b at *
  generalize choS d = c at *
  by_cases c0 : a.2.2.2.2 = true
  · rw [if_pos c0]
    by_cases c1 : b.2.2.2.2 = true
    · rw [if_neg (by simpa using c1)]
      by_cases c2 : a.2.2.2.1 > b.2.2.2.1
      · rw [if_pos ⟨c0, fun q => by omega⟩] at hch
        subst hch
        rw [if_pos c2, if_pos c0]
      · have hne : a.2.2.2.1 ≠ b.2.2.2.1 := fun e => by
          have := t0 c0; rw [e, t1 c1] at this; omega
        rw [if_neg (fun q => q.2 ⟨c1, by omega⟩)] at hch
        subst hch
        rw [if_neg c2, if_pos c1]
        simp [spec_l10Choose_p1, c1]
    · rw [if_pos ⟨c0, fun q => c1 q.1⟩] at hch
      subst hch
      rw [if_pos c1, if_pos c0]
  · rw [if_neg (fun q => c0 q.1)] at hch
    subst hch
    rw [if_neg c0]
    by_cases c1 : c.2.2.2.2 = true
    · rw [if_pos c1]; simp [spec_l10Choose_p1, c1]
    · rw [if_neg c1]
      have : c.2.2.2.2 = false := by simpa using c1
      simp [spec_l10Choose_p1, this]

theorem spec_ChooseSuper_out (d : DDisk) : spec_ChooseSuper d = some (outC d) := by
  unfold spec_ChooseSuper outC
  simp only [l09Ok_out, Option.bind_some, deq]
  by_cases h : DiskV d
  · rw [if_neg (by simpa using h), if_pos h, l10Choose_out d h]; rfl
  · rw [if_pos (by simpa using h), if_neg h]

theorem choose_out (d : DDisk) (hd : DiskV d) : impl_Disk_choose d = some (choS d) := by
  unfold impl_Disk_choose impl_Disk_choose_l1
  have hl := hd.1
  have t0 := slotS_tmod (d := d) (k := 0)
  have t1 := slotS_tmod (d := d) (k := 1)
  have step : ∀ (k : Int) (o : Int × Int × Int × Int) (f : Bool), 0 ≤ k → k < 2 → impl_Disk_choose_l1_b d.1 d.2.1 d.2.2.1 d.2.2.2 0 0 0 0 o.1 o.2.1 o.2.2.1 o.2.2.2 f k =
      some (.inl (if (slotS d k).2.2.2.2 = true ∧ (f = false ∨ o.2.2.2 < (slotS d k).2.2.2.1) then ((slotS d k).1, (slotS d k).2.1, (slotS d k).2.2.1, (slotS d k).2.2.2.1, true, k + 1) else (o.1, o.2.1, o.2.2.1, o.2.2.2, f, k + 1))) := by
    intro k o f h0 h1
    obtain ⟨r1, r2⟩ := readD_out d k hd h0 (by omega)
    unfold impl_Disk_choose_l1_b impl_Disk_read slotS
    rw [if_pos h1, show (d.1, d.2.1, d.2.2.1, d.2.2.2) = d from rfl, r1, Option.bind_some, iDecode_out _ r2, Option.bind_some, wrap_in (by omega) (by omega)]
    generalize decS (rdD d k) = r
    by_cases c1 : r.2.2.2.2 = true
    case neg =>
      have c1' : r.2.2.2.2 = false := by simpa using c1
      simp [c1']
    by_cases c2 : r.1 = (d.1.length : Int)
    case neg => simp [c1, c2]
    by_cases c3 : Int.tmod r.2.2.2.1 2 = k
    case neg => simp [c1, c2, c3]
    have hc : r.2.2.2.2 = true ∧ r.1 = (d.1.length : Int) ∧ Int.tmod r.2.2.2.1 2 = k := ⟨c1, c2, c3⟩
    rw [if_pos c1, if_pos c2, if_pos c3]
    simp only [if_pos hc, true_and]
    cases f with
    | false => simp
    | true =>
      simp only [not_true_eq_false, if_false, Bool.true_eq_false, false_or]
      by_cases c4 : r.2.2.2.1 > o.2.2.2
      · rw [if_pos c4, if_pos (by omega)]
      · rw [if_neg c4, if_neg (by omega)]
  have s0 := step 0 (0, 0, 0, 0) false (by omega) (by omega)
  simp only [true_or, and_true] at s0
  have z0 := slotS_zero (d := d) (k := 0)
  have z1 := slotS_zero (d := d) (k := 1)
  have fin : ∀ (o : Int × Int × Int × Int) (f : Bool), loopO (fun s => impl_Disk_choose_l1_b d.1 d.2.1 d.2.2.1 d.2.2.2 0 0 0 0 s.1 s.2.1 s.2.2.1 s.2.2.2.1 s.2.2.2.2.1 s.2.2.2.2.2) (o.1, o.2.1, o.2.2.1, o.2.2.2, f, 2) = some (0, 0, 0, 0, o.1, o.2.1, o.2.2.1, o.2.2.2, f) := fun o f =>
    loopO_inr (by simp [impl_Disk_choose_l1_b])
  rw [loopO_inl s0]
  unfold choS
  by_cases c0 : (slotS d 0).2.2.2.2 = true
  · rw [if_pos c0]
    have s1 := step 1 ((slotS d 0).1, (slotS d 0).2.1, (slotS d 0).2.2.1, (slotS d 0).2.2.2.1) true (by omega) (by omega)
    simp only [Bool.true_eq_false, false_or] at s1
    rw [show (0 : Int) + 1 = 1 by omega, loopO_inl s1]
    by_cases c1 : (slotS d 1).2.2.2.2 = true ∧ (slotS d 0).2.2.2.1 < (slotS d 1).2.2.2.1
    · rw [if_pos c1, if_neg (fun q => q.2 c1)]
      rw [show (1 : Int) + 1 = 2 by omega, fin ((slotS d 1).1, (slotS d 1).2.1, (slotS d 1).2.2.1, (slotS d 1).2.2.2.1) true]
      rw [Option.bind_some, ← c1.1]
    · rw [if_neg c1, if_pos ⟨c0, c1⟩]
      rw [show (1 : Int) + 1 = 2 by omega, fin ((slotS d 0).1, (slotS d 0).2.1, (slotS d 0).2.2.1, (slotS d 0).2.2.2.1) true]
      rw [Option.bind_some, ← c0]
  · rw [if_neg c0, if_neg (fun q => c0 q.1)]
    have s1 := step 1 (0, 0, 0, 0) false (by omega) (by omega)
    simp only [true_or, and_true] at s1
    rw [show (0 : Int) + 1 = 1 by omega, loopO_inl s1]
    by_cases c1 : (slotS d 1).2.2.2.2 = true
    · rw [if_pos c1, show (1 : Int) + 1 = 2 by omega, fin ((slotS d 1).1, (slotS d 1).2.1, (slotS d 1).2.2.1, (slotS d 1).2.2.2.1) true]
      rw [Option.bind_some, ← c1]
    · rw [if_neg c1, show (1 : Int) + 1 = 2 by omega, fin (0, 0, 0, 0) false, Option.bind_some, z1 c1]

theorem impl_ChooseSuper_out (d : DDisk) : impl_ChooseSuper d = some (outC d) := by
  unfold impl_ChooseSuper outC
  simp only [ValidDisk_out, Option.bind_some, deq]
  by_cases h : DiskV d
  · rw [if_neg (by simpa using h), if_pos h, choose_out d h, Option.bind_some]
    by_cases c : (choS d).2.2.2.2 = true
    · rw [if_neg (by simpa using c), if_pos c]
    · rw [if_pos c, if_neg c]
  · rw [if_pos (by simpa using h), if_neg h]
end Go.Proofs.TM
