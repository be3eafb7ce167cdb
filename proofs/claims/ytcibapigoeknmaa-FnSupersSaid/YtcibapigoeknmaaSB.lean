import Derived.Test.YtcibapigoeknmaaSA
namespace Go.Proofs.TM
open Go Go.Proofs
set_option linter.unusedVariables false
set_option linter.unusedSimpArgs false
set_option maxHeartbeats 1000000
theorem number_out (s : Str) (bad : Bool) (k : Nat) (hk : k ≤ 8) (h : k ≤ s.length) (hs : s.length ≤ 1048576) :
  impl_decoder_number_o1a (s, bad) k = some ((s.drop k, bad), IntKind.i64.wrap (leN (s.take k) : Int)) := by
 unfold impl_decoder_number_o1a impl_decoder_take_o1a impl_cut
 simp only
 rw [if_neg (by omega), within_out, Option.bind_some, wrap_in (n := (s.length : Int) - k) (by omega) (by omega), if_neg (by simp; omega)]
 rw [wrap_in (n := (0 : Int) + k) (by omega) (by omega)]
 have e1 : subL s (some 0) (some (0 + (k : Int))) = some (s.take k) := by
  unfold subL bound
  simp only
  rw [if_pos (by omega)]
  simp
 have e2 : subL s (some (k : Int)) none = some (s.drop k) := by
  unfold subL bound
  simp only
  rw [if_pos (by omega)]
  simp
 rw [e1, Option.bind_some, Option.bind_some]
 simp only [not_true_eq_false, if_false]
 rw [e2, Option.bind_some, Option.bind_some, getBits_out _ (by simp; omega), Option.bind_some]
def rawS (b : Str) : DSuper := (IntKind.i64.wrap (leN ((b.drop 5).take 2) : Int), IntKind.i64.wrap (leN ((b.drop 7).take 2) : Int), IntKind.i64.wrap (leN ((b.drop 9).take 8) : Int), IntKind.i64.wrap (leN ((b.drop 17).take 8) : Int))
open Classical in
noncomputable def decS (b : Str) : DSuper × Bool := if SuperV (rawS b) ∧ encS (rawS b) = b then (rawS b, true) else ((0, 0, 0, 0), false)
open Classical in
theorem iDecode_out (b : Str) (h : b.length = 64) : impl_DecodeSuper b = some (decS b) := by
 unfold impl_DecodeSuper impl_isBlock
 have e2 : subL b (some 5) none = some (b.drop 5) := by
  unfold subL bound
  simp only
  rw [if_pos (by omega)]
  simp
 have n1 := number_out (b.drop 5) false 2 (by omega) (by simp; omega) (by simp; omega)
 have n2 := number_out ((b.drop 5).drop 2) false 2 (by omega) (by simp; omega) (by simp; omega)
 have n3 := number_out (((b.drop 5).drop 2).drop 2) false 8 (by omega) (by simp; omega) (by simp; omega)
 have n4 := number_out ((((b.drop 5).drop 2).drop 2).drop 8) false 8 (by omega) (by simp; omega) (by simp; omega)
 rw [Option.bind_some, if_neg (by simp; omega), e2, Option.bind_some]
 rw [show impl_decoder_number_o1a ((b.drop 5), false) 2 = _ from n1, Option.bind_some]
 simp only
 rw [show impl_decoder_number_o1a (((b.drop 5).drop 2), false) 2 = _ from n2, Option.bind_some]
 simp only
 rw [show impl_decoder_number_o1a ((((b.drop 5).drop 2).drop 2), false) 8 = _ from n3, Option.bind_some]
 simp only
 rw [show impl_decoder_number_o1a (((((b.drop 5).drop 2).drop 2).drop 8), false) 8 = _ from n4, Option.bind_some]
 simp only [List.drop_drop]
 rw [iValidSuper_out, Option.bind_some, encode_out]
 simp only [Option.bind_some, deq]
 unfold decS
 rw [show (IntKind.i64.wrap (leN ((b.drop 5).take 2) : Int), IntKind.i64.wrap (leN ((b.drop (5 + 2)).take 2) : Int), IntKind.i64.wrap (leN ((b.drop (5 + 2 + 2)).take 8) : Int), IntKind.i64.wrap (leN ((b.drop (5 + 2 + 2 + 8)).take 8) : Int)) = rawS b from rfl]
 by_cases h1 : SuperV (rawS b)
 case neg => rw [if_pos h1, if_neg (fun q => h1 q.1)]
 rw [if_neg (by simpa using h1)]
 by_cases h2 : encS (rawS b) = b
 case neg => rw [if_pos h2, if_neg (fun q => h2 q.2)]
 rw [if_neg (by simpa using h2), if_pos ⟨h1, h2⟩]
theorem wrap_small {n : Nat} (h : n < 9223372036854775808) : IntKind.i64.wrap (n : Int) = n := wrap_in (by omega) (by omega)
theorem wrap_big {n : Nat} (h : ¬ n < 9223372036854775808) (h' : n < 18446744073709551616) : IntKind.i64.wrap (n : Int) < 0 := by
 rw [IntKind.wrap_i64]; omega
open Classical in
theorem sDecode_out (b : Str) (h : b.length = 64) : spec_DecodeSuper b = some (decS b) := by
 unfold spec_DecodeSuper
 rw [if_neg (by omega)]
 have g1 := l01GetUint_out b 5 2 (by omega) (by omega) (by omega)
 have g2 := l01GetUint_out b 7 2 (by omega) (by omega) (by omega)
 have g3 := l01GetUint_out b 9 8 (by omega) (by omega) (by omega)
 have g4 := l01GetUint_out b 17 8 (by omega) (by omega) (by omega)
 have b1 : leN ((b.drop 5).take 2) < 65536 := by have := leN_lt ((b.drop 5).take 2); rw [show ((b.drop 5).take 2).length = 2 by simp; omega] at this; simpa using this
 have b2 : leN ((b.drop 7).take 2) < 65536 := by have := leN_lt ((b.drop 7).take 2); rw [show ((b.drop 7).take 2).length = 2 by simp; omega] at this; simpa using this
 have b3 : leN ((b.drop 9).take 8) < 18446744073709551616 := by have := leN_lt ((b.drop 9).take 8); rw [show ((b.drop 9).take 8).length = 8 by simp; omega] at this; simpa using this
 have b4 : leN ((b.drop 17).take 8) < 18446744073709551616 := by have := leN_lt ((b.drop 17).take 8); rw [show ((b.drop 17).take 8).length = 8 by simp; omega] at this; simpa using this
 rw [if_pos (by omega)] at g1 g2
 have hraw : rawS b = ((leN ((b.drop 5).take 2) : Int), (leN ((b.drop 7).take 2) : Int), IntKind.i64.wrap (leN ((b.drop 9).take 8) : Int), IntKind.i64.wrap (leN ((b.drop 17).take 8) : Int)) := by
  unfold rawS
  rw [wrap_small (n := leN ((b.drop 5).take 2)) (by omega), wrap_small (n := leN ((b.drop 7).take 2)) (by omega)]
 generalize leN ((b.drop 5).take 2) = x1 at *
 generalize leN ((b.drop 7).take 2) = x2 at *
 generalize leN ((b.drop 9).take 8) = x3 at *
 generalize leN ((b.drop 17).take 8) = x4 at *
 have G1 : spec_l01GetUint b 5 2 = some ((x1 : Int), true) := g1
 have G2 : spec_l01GetUint b 7 2 = some ((x2 : Int), true) := g2
 have G3 : spec_l01GetUint b 9 8 = some (if x3 < 9223372036854775808 then ((x3 : Int), true) else (0, false)) := g3
 have G4 : spec_l01GetUint b 17 8 = some (if x4 < 9223372036854775808 then ((x4 : Int), true) else (0, false)) := g4
 have step : ∀ (p : Int × Bool) (q : Int × Bool), spec_l01GetUint b 9 8 = some p → spec_l01GetUint b 17 8 = some q → ∃ a5, spec_DecodeSuper_l1 (b, (0, 0, 0, 0), (0, 0, 0, 0), true, 0) = some (b, a5, ((x1 : Int), (x2 : Int), p.1, q.1), p.2 && q.2) := by
  intro p q hp hq
  refine ⟨(0, 0, 0, 0), ?_⟩
  unfold spec_DecodeSuper_l1
  have k1 : IntKind.i64.wrap 1 = 1 := by decide
  have k2 : IntKind.i64.wrap 2 = 2 := by decide
  have k3 : IntKind.i64.wrap 3 = 3 := by decide
  have k4 : IntKind.i64.wrap 4 = 4 := by decide
  rw [loopO_inl (s' := (b, (0, 0, 0, 0), ((x1 : Int), 0, 0, 0), true, 1)) (by simp [spec_DecodeSuper_l1_b, spec_DecodeSuper_p2, lit, G1, k1])]
  rw [loopO_inl (s' := (b, (0, 0, 0, 0), ((x1 : Int), (x2 : Int), 0, 0), true, 2)) (by simp [spec_DecodeSuper_l1_b, spec_DecodeSuper_p2, lit, G2, k2])]
  rw [loopO_inl (s' := (b, (0, 0, 0, 0), ((x1 : Int), (x2 : Int), p.1, 0), p.2, 3)) (by simp [spec_DecodeSuper_l1_b, spec_DecodeSuper_p2, lit, hp, k3])]
  rw [loopO_inl (s' := (b, (0, 0, 0, 0), ((x1 : Int), (x2 : Int), p.1, q.1), p.2 && q.2, 4)) (by cases hp2 : p.2 <;> simp [spec_DecodeSuper_l1_b, spec_DecodeSuper_p2, lit, hq, k4])]
  rw [loopO_inr (r := (b, (0, 0, 0, 0), ((x1 : Int), (x2 : Int), p.1, q.1), p.2 && q.2)) (by simp [spec_DecodeSuper_l1_b])]
 obtain ⟨a5, hl⟩ := step _ _ G3 G4
 rw [hl, Option.bind_some]
 simp only
 unfold decS
 by_cases h3 : x3 < 9223372036854775808
 case neg =>
  rw [if_neg h3]
  simp only [Bool.false_and, Bool.false_eq_true, not_false_eq_true, if_true]
  rw [if_neg]
  rintro ⟨hv, _⟩
  rw [hraw] at hv
  have := hv.2.2.2.2.2.1
  have := wrap_big h3 b3
  simp only at *
  omega
 by_cases h4 : x4 < 9223372036854775808
 case neg =>
  rw [if_neg h4]
  simp only [Bool.and_false, Bool.false_eq_true, not_false_eq_true, if_true]
  rw [if_neg]
  rintro ⟨hv, _⟩
  rw [hraw] at hv
  have := hv.2.2.2.2.2.2.2.1
  have := wrap_big h4 b4
  simp only at *
  omega
 rw [wrap_small h3, wrap_small h4] at hraw
 rw [if_pos h3, if_pos h4]
 simp only [Bool.and_self, not_true_eq_false, if_false, sValidSuper_out, Option.bind_some, deq]
 rw [hraw]
 by_cases h1 : SuperV ((x1 : Int), (x2 : Int), (x3 : Int), (x4 : Int))
 case neg => rw [if_pos h1, if_neg (fun q => h1 q.1)]
 rw [if_neg (by simpa using h1), l10Encode_out _ h1.sin, Option.bind_some]
 by_cases h2 : encS ((x1 : Int), (x2 : Int), (x3 : Int), (x4 : Int)) = b
 case neg => rw [if_pos h2, if_neg (fun q => h2 q.2)]
 rw [if_neg (by simpa using h2), if_pos ⟨h1, h2⟩]
end Go.Proofs.TM
namespace Go.Proofs.TM
open Go Go.Proofs
set_option linter.unusedVariables false
set_option linter.unusedSimpArgs false
set_option maxHeartbeats 1000000
open Classical in
noncomputable def slotS (d : DDisk) (k : Int) : DSuper × Bool :=
 if (decS (rdD d k)).2 = true ∧ (decS (rdD d k)).1.1 = (d.1.length : Int) ∧ Int.tmod (decS (rdD d k)).1.2.2.2 2 = k then ((decS (rdD d k)).1, true) else ((0, 0, 0, 0), false)
open Classical in
noncomputable def choS (d : DDisk) : DSuper × Bool :=
 if (slotS d 0).2 = true ∧ ¬ ((slotS d 1).2 = true ∧ (slotS d 0).1.2.2.2 < (slotS d 1).1.2.2.2) then slotS d 0 else slotS d 1
open Classical in
noncomputable def outC (d : DDisk) : DSuper × Int := if DiskV d then (if (choS d).2 = true then ((choS d).1, 0) else ((0, 0, 0, 0), 10)) else ((0, 0, 0, 0), 1)
theorem slotS_tmod {d : DDisk} {k : Int} (h : (slotS d k).2 = true) : Int.tmod (slotS d k).1.2.2.2 2 = k := by
 unfold slotS at *
 split
 ·rename_i q; exact q.2.2
 ·rename_i q; rw [if_neg q] at h; cases h
theorem slotS_zero {d : DDisk} {k : Int} (h : ¬ (slotS d k).2 = true) : slotS d k = ((0, 0, 0, 0), false) := by
 unfold slotS at *
 split
 ·rename_i q; rw [if_pos q] at h; exact absurd rfl h
 ·rfl
open Classical in
theorem l10Slot_out (d : DDisk) (k : Int) (hd : DiskV d) (h0 : 0 ≤ k) (h1 : k < (d.1.length : Int)) : spec_l10Slot d k = some (slotS d k) := by
 obtain ⟨r1, r2⟩ := readD_out d k hd h0 h1
 unfold spec_l10Slot slotS
 rw [l09Read_out d k (by have := hd.2.2.1; omega), r1, Option.bind_some, sDecode_out _ r2, Option.bind_some]
 generalize decS (rdD d k) = r
 by_cases c1 : r.2 = true
 case neg => rw [if_pos c1, if_neg (fun q => c1 q.1)]
 rw [if_neg (by simpa using c1)]
 by_cases c2 : r.1.1 = (d.1.length : Int)
 case neg => rw [if_pos c2, if_neg (fun q => c2 q.2.1)]
 rw [if_neg (by simpa using c2)]
 by_cases c3 : Int.tmod r.1.2.2.2 2 = k
 case neg => rw [if_pos c3, if_neg (fun q => c3 q.2.2)]
 rw [if_neg (by simpa using c3), if_pos ⟨c1, c2, c3⟩]
theorem l10Choose_out (d : DDisk) (hd : DiskV d) : spec_l10Choose d = some (if (choS d).2 = true then ((choS d).1, 0) else ((0, 0, 0, 0), 10)) := by
 unfold spec_l10Choose
 have hl := hd.1
 rw [l10Slot_out d 0 hd (by omega) (by omega), l10Slot_out d 1 hd (by omega) (by omega), Option.bind_some, Option.bind_some]
 have t0 := slotS_tmod (d := d) (k := 0)
 have t1 := slotS_tmod (d := d) (k := 1)
 have hch : choS d = (if (slotS d 0).2 = true ∧ ¬ ((slotS d 1).2 = true ∧ (slotS d 0).1.2.2.2 < (slotS d 1).1.2.2.2) then slotS d 0 else slotS d 1) := by
  unfold choS; congr
 generalize slotS d 0 = a at *
 generalize slotS d 1 = b at *
 generalize choS d = c at *
 by_cases c0 : a.2 = true
 ·rw [if_pos c0]
  by_cases c1 : b.2 = true
  ·rw [if_neg (by simpa using c1)]
   by_cases c2 : a.1.2.2.2 > b.1.2.2.2
   ·rw [if_pos ⟨c0, fun q => by omega⟩] at hch
    subst hch
    rw [if_pos c2, if_pos c0]
   ·have hne : a.1.2.2.2 ≠ b.1.2.2.2 := fun e => by
     have := t0 c0; rw [e, t1 c1] at this; omega
    rw [if_neg (fun q => q.2 ⟨c1, by omega⟩)] at hch
    subst hch
    rw [if_neg c2, if_pos c1]
    simp [spec_l10Choose_p1, c1]
  ·rw [if_pos ⟨c0, fun q => c1 q.1⟩] at hch
   subst hch
   rw [if_pos c1, if_pos c0]
 ·rw [if_neg (fun q => c0 q.1)] at hch
  subst hch
  rw [if_neg c0]
  by_cases c1 : c.2 = true
  ·rw [if_pos c1]; simp [spec_l10Choose_p1, c1]
  ·rw [if_neg c1]
   have : c.2 = false := by simpa using c1
   simp [spec_l10Choose_p1, this]
theorem spec_ChooseSuper_out (d : DDisk) : spec_ChooseSuper d = some (outC d) := by
 unfold spec_ChooseSuper outC
 simp only [l09Ok_out, Option.bind_some, deq]
 by_cases h : DiskV d
 ·rw [if_neg (by simpa using h), if_pos h, l10Choose_out d h]; rfl
 ·rw [if_pos (by simpa using h), if_neg h]
theorem choose_out (d : DDisk) (hd : DiskV d) : impl_Disk_choose d = some (choS d) := by
 unfold impl_Disk_choose impl_Disk_choose_l1
 have hl := hd.1
 have step : ∀ (k : Int) (o : DSuper) (f : Bool), 0 ≤ k → k < 2 → impl_Disk_choose_l1_b d (0, 0, 0, 0) o f k =
   some (.inl (if (slotS d k).2 = true ∧ (f = false ∨ o.2.2.2 < (slotS d k).1.2.2.2) then ((slotS d k).1, true, k + 1) else (o, f, k + 1))) := by
  intro k o f h0 h1
  obtain ⟨r1, r2⟩ := readD_out d k hd h0 (by omega)
  unfold impl_Disk_choose_l1_b impl_Disk_read slotS
  rw [if_pos h1, r1, Option.bind_some, iDecode_out _ r2, Option.bind_some, wrap_in (by omega) (by omega)]
  generalize decS (rdD d k) = r
  by_cases c1 : r.2 = true
  case neg =>
   have c1' : r.2 = false := by simpa using c1
   simp [c1']
  by_cases c2 : r.1.1 = (d.1.length : Int)
  case neg => simp [c1, c2]
  by_cases c3 : Int.tmod r.1.2.2.2 2 = k
  case neg => simp [c1, c2, c3]
  have hc : r.2 = true ∧ r.1.1 = (d.1.length : Int) ∧ Int.tmod r.1.2.2.2 2 = k := ⟨c1, c2, c3⟩
  rw [if_pos c1, if_pos c2, if_pos c3]
  simp only [if_pos hc, true_and]
  cases f with
  | false => simp
  | true =>
   simp only [not_true_eq_false, if_false, Bool.true_eq_false, false_or]
   by_cases c4 : r.1.2.2.2 > o.2.2.2
   ·rw [if_pos c4, if_pos (by omega)]
   ·rw [if_neg c4, if_neg (by omega)]
 have s0 := step 0 (0, 0, 0, 0) false (by omega) (by omega)
 simp only [true_or, and_true] at s0
 have z1 := slotS_zero (d := d) (k := 1)
 have fin : ∀ (o : DSuper) (f : Bool), loopO (fun s => impl_Disk_choose_l1_b d (0, 0, 0, 0) s.1 s.2.1 s.2.2) (o, f, 2) = some ((0, 0, 0, 0), o, f) := fun o f =>
  loopO_inr (by simp [impl_Disk_choose_l1_b])
 rw [loopO_inl s0]
 unfold choS
 by_cases c0 : (slotS d 0).2 = true
 ·rw [if_pos c0]
  have s1 := step 1 (slotS d 0).1 true (by omega) (by omega)
  simp only [Bool.true_eq_false, false_or] at s1
  rw [show (0 : Int) + 1 = 1 by omega, loopO_inl s1]
  by_cases c1 : (slotS d 1).2 = true ∧ (slotS d 0).1.2.2.2 < (slotS d 1).1.2.2.2
  ·rw [if_pos c1, if_neg (fun q => q.2 c1)]
   rw [show (1 : Int) + 1 = 2 by omega, fin (slotS d 1).1 true]
   rw [Option.bind_some, ← c1.1]
  ·rw [if_neg c1, if_pos ⟨c0, c1⟩]
   rw [show (1 : Int) + 1 = 2 by omega, fin (slotS d 0).1 true]
   rw [Option.bind_some, ← c0]
 ·rw [if_neg c0, if_neg (fun q => c0 q.1)]
  have s1 := step 1 (0, 0, 0, 0) false (by omega) (by omega)
  simp only [true_or, and_true] at s1
  rw [show (0 : Int) + 1 = 1 by omega, loopO_inl s1]
  by_cases c1 : (slotS d 1).2 = true
  ·rw [if_pos c1, show (1 : Int) + 1 = 2 by omega, fin (slotS d 1).1 true]
   rw [Option.bind_some, ← c1]
  ·rw [if_neg c1, show (1 : Int) + 1 = 2 by omega, fin (0, 0, 0, 0) false, Option.bind_some, z1 c1]
theorem impl_ChooseSuper_out (d : DDisk) : impl_ChooseSuper d = some (outC d) := by
 unfold impl_ChooseSuper outC
 simp only [ValidDisk_out, Option.bind_some, deq]
 by_cases h : DiskV d
 ·rw [if_neg (by simpa using h), if_pos h, choose_out d h, Option.bind_some]
  by_cases c : (choS d).2 = true
  ·rw [if_neg (by simpa using c), if_pos c]
  ·rw [if_pos c, if_neg c]
 ·rw [if_pos (by simpa using h), if_neg h]
end Go.Proofs.TM
namespace Go.Proofs.TM
open Go Go.Proofs
set_option linter.unusedVariables false
set_option linter.unusedSimpArgs false
set_option maxHeartbeats 1000000
theorem and255u (x : Int) : 0 ≤ bitV .and .u64 x 255 ∧ bitV .and .u64 x 255 ≤ 255 := by
 have h : ((BitVec.ofInt 64 x) &&& (BitVec.ofInt 64 255)).toNat ≤ 255 := by
  rw [BitVec.toNat_and]; exact Nat.le_trans Nat.and_le_right (by decide)
 have e : bitV .and .u64 x 255 = IntKind.u64.wrap (((BitVec.ofInt 64 x) &&& (BitVec.ofInt 64 255)).toNat : Int) := rfl
 rw [e]
 generalize ((BitVec.ofInt 64 x) &&& (BitVec.ofInt 64 255)).toNat = m at h
 rw [IntKind.wrap_u64]; omega
theorem next_out (c : List Bt) (a s : Int) (h0 : 0 ≤ a) (h1 : a ≤ 1000000) : ∃ s' v, spec_l00Src_next_o9d c a s = some (c, a + 1, s', v) ∧ 0 ≤ v ∧ v ≤ 255 := by
 have hp : ∀ b : Int, 0 ≤ b → b ≤ 255 → ∃ s' v, spec_l00Src_next_o9d_p1 c a s b = some (c, a + 1, s', v) ∧ 0 ≤ v ∧ v ≤ 255 := fun b hb hb' => by
  unfold spec_l00Src_next_o9d_p1
  rw [wrap_in (n := a + 1) (by omega) (by omega)]
  split
  ·exact ⟨_, _, rfl, hb, hb'⟩
  ·have := and255u (shrV .u64 (IntKind.u64.wrap (IntKind.u64.wrap (IntKind.u64.wrap (s * 6364136223846793005) + IntKind.u64.wrap b) + 1442695040888963407)) 40)
   exact ⟨_, _, rfl, by rw [wrap_in (by omega) (by omega)]; exact this.1, by rw [wrap_in (by omega) (by omega)]; exact this.2⟩
 unfold spec_l00Src_next_o9d
 by_cases h : a < (c.length : Int)
 ·rw [if_pos h, if_pos h0]
  obtain ⟨x, hx⟩ := get_at (l := c) (i := a.toNat) (by omega)
  have hb : (x.v.toNat : Int) ≤ 255 := by have := x.v.toNat_lt; omega
  rw [hx, Option.bind_some, wrap_in (n := (x.v.toNat : Int)) (by omega) (by omega)]
  obtain ⟨s', v, e, h2⟩ := hp x.v.toNat (by omega) hb
  exact ⟨s', v, by rw [e]; rfl, h2⟩
 ·rw [if_neg h]
  obtain ⟨s', v, e, h2⟩ := hp 0 (by omega) (by omega)
  exact ⟨s', v, by rw [e]; rfl, h2⟩
theorem pick_out (c : List Bt) (a s n : Int) (h0 : 0 ≤ a) (h1 : a ≤ 999999) : ∃ a' s' v, spec_l00Src_pick_o30 c a s n = some (c, a', s', v) ∧ (a ≤ a' ∧ a' ≤ a + 2) ∧ 0 ≤ v ∧ (v < n ∨ v = 0) := by
 unfold spec_l00Src_pick_o30
 by_cases hn : n ≤ 1
 ·rw [if_pos hn]; exact ⟨a, s, 0, rfl, by omega, by omega, .inr rfl⟩
 rw [if_neg hn]
 obtain ⟨s1, v1, e1, l1, u1⟩ := next_out c a s h0 (by omega)
 rw [e1, Option.bind_some]
 have hz : ¬ n = 0 := by omega
 have tm : ∀ v : Int, 0 ≤ v → 0 ≤ Int.tmod v n ∧ Int.tmod v n < n := fun v hv => by
  rw [Int.tmod_eq_emod_of_nonneg hv]
  exact ⟨Int.emod_nonneg _ (by omega), Int.emod_lt_of_pos _ (by omega)⟩
 by_cases h2 : n > 200
 ·rw [if_pos h2]
  obtain ⟨s2, v2, e2, l2, u2⟩ := next_out c (a + 1) s1 (by omega) (by omega)
  simp only
  rw [e2, Option.bind_some, if_neg hz]
  have e3 : IntKind.i64.wrap (v1 * 256) = v1 * 256 := wrap_in (by omega) (by omega)
  have e4 : IntKind.i64.wrap (v1 * 256 + v2) = v1 * 256 + v2 := wrap_in (by omega) (by omega)
  have := tm (v1 * 256 + v2) (by omega)
  refine ⟨a + 1 + 1, s2, _, rfl, by omega, ?_, ?_⟩
  ·simp only [e3, e4]; exact this.1
  ·simp only [e3, e4]; exact .inl this.2
 ·rw [if_neg h2, if_neg hz]
  have := tm v1 l1
  exact ⟨a + 1, s1, _, rfl, by omega, this.1, .inl this.2⟩
theorem one_out (c : List Bt) (a s n : Int) (h0 : 0 ≤ a) (h1 : a ≤ 999999) : ∃ a' s' b, spec_l00Src_one_o30 c a s n = some (c, a', s', b) ∧ (a ≤ a' ∧ a' ≤ a + 2) := by
 obtain ⟨a', s', v, e, h2, _⟩ := pick_out c a s n h0 h1
 exact ⟨a', s', _, by unfold spec_l00Src_one_o30; rw [e]; rfl, h2⟩
theorem among_out (c : List Bt) (a s : Int) (l : List Int) (hl : 0 < l.length) (h0 : 0 ≤ a) (h1 : a ≤ 999999) : ∃ a' s' x, spec_l00Src_among_o72 c a s l = some (c, a', s', l, x) ∧ (a ≤ a' ∧ a' ≤ a + 2) ∧ x ∈ l := by
 obtain ⟨a', s', v, e, h2, h3, h4⟩ := pick_out c a s l.length h0 h1
 obtain ⟨x, hx⟩ := get_at (l := l) (i := v.toNat) (by omega)
 refine ⟨a', s', x, ?_, h2, List.mem_of_getElem? hx⟩
 unfold spec_l00Src_among_o72
 rw [e, Option.bind_some]
 simp only
 rw [if_pos (by omega), hx]; rfl
end Go.Proofs.TM
namespace Go.Proofs.TM
open Go Go.Proofs
set_option linter.unusedVariables false
set_option linter.unusedSimpArgs false
set_option maxHeartbeats 1000000
theorem l10Draw_p1_out (c : List Bt) (a s n : Int) (v w : DSuper) (h0 : 0 ≤ a) (h1 : a ≤ 900000) : ∃ a' s' x, spec_l10Draw_o30_p1 c a s n v w = some (c, a', s', x) ∧ a ≤ a' ∧ a' ≤ a + 6 := by
 unfold spec_l10Draw_o30_p1
 obtain ⟨a1, s1, b1, e1, l1⟩ := one_out c a s n h0 (by omega)
 rw [e1, Option.bind_some]
 simp only
 split
 case isFalse => exact ⟨a1, s1, w, rfl, by omega, by omega⟩
 obtain ⟨a2, s2, k2, e2, l2, _⟩ := pick_out c a1 s1 4 (by omega) (by omega)
 rw [e2, Option.bind_some]
 simp only
 have go : ∀ l : List Int, 0 < l.length → ∃ a' s' x, spec_l00Src_among_o72 c a2 s2 l = some (c, a', s', l, x) ∧ a ≤ a' ∧ a' ≤ a + 6 := fun l hl => by
  obtain ⟨a3, s3, x3, e3, l3, _⟩ := among_out c a2 s2 l hl (by omega) (by omega)
  exact ⟨a3, s3, x3, e3, by omega, by omega⟩
 split
 ·obtain ⟨a3, s3, x3, e3, l3⟩ := go (lit [15, 257, 0, 16]) (by simp [lit])
  rw [e3, Option.bind_some, if_pos rfl]; exact ⟨a3, s3, _, rfl, l3⟩
 split
 ·obtain ⟨a3, s3, x3, e3, l3⟩ := go (lit [7, 65, IntKind.i64.wrap (w.1 - 4), IntKind.i64.wrap (w.1 - 3)]) (by simp [lit])
  rw [e3, Option.bind_some, if_pos rfl]; exact ⟨a3, s3, _, rfl, l3⟩
 split
 ·obtain ⟨a3, s3, x3, e3, l3⟩ := go (lit [-1, 1000000000001]) (by simp [lit])
  rw [e3, Option.bind_some, if_pos rfl]; exact ⟨a3, s3, _, rfl, l3⟩
 ·obtain ⟨a3, s3, x3, e3, l3⟩ := go (lit [-1, 1000000000001, 1000000000000]) (by simp [lit])
  rw [e3, Option.bind_some, if_pos rfl]; exact ⟨a3, s3, _, rfl, l3⟩
theorem l10Draw_out (c : List Bt) (a s n : Int) (h0 : 0 ≤ a) (h1 : a ≤ 800000) : ∃ a' s' x, spec_l10Draw_o30 c a s n = some (c, a', s', x) ∧ a ≤ a' ∧ a' ≤ a + 16 := by
 unfold spec_l10Draw_o30
 obtain ⟨a1, s1, x1, e1, l1, _⟩ := among_out c a s (lit [16, 40, 64, 256, 20]) (by simp [lit]) h0 (by omega)
 rw [e1, Option.bind_some, if_pos rfl]
 simp only
 obtain ⟨a2, s2, x2, e2, l2, _⟩ := pick_out c a1 s1 5 (by omega) (by omega)
 rw [e2, Option.bind_some]
 simp only
 obtain ⟨a3, s3, x3, e3, l3, _⟩ := pick_out c a2 s2 30 (by omega) (by omega)
 rw [e3, Option.bind_some]
 simp only
 obtain ⟨a4, s4, x4, e4, l4, _⟩ := pick_out c a3 s3 9 (by omega) (by omega)
 rw [e4, Option.bind_some]
 simp only
 obtain ⟨a5, s5, x5, e5, l5⟩ := one_out c a4 s4 6 (by omega) (by omega)
 rw [e5, Option.bind_some]
 simp only
 split
 ·obtain ⟨a6, s6, x6, e6, l6⟩ := l10Draw_p1_out c a5 s5 n (0, 0, 0, 0) (x1, IntKind.i64.wrap (8 + x2), 1000000000000, x4) (by omega) (by omega)
  rw [e6, Option.bind_some]; exact ⟨a6, s6, x6, rfl, by omega, by omega⟩
 ·obtain ⟨a6, s6, x6, e6, l6⟩ := l10Draw_p1_out c a5 s5 n (0, 0, 0, 0) (x1, IntKind.i64.wrap (8 + x2), x3, x4) (by omega) (by omega)
  rw [e6, Option.bind_some]; exact ⟨a6, s6, x6, rfl, by omega, by omega⟩
def z64 : Str := List.replicate 64 0
theorem l09Zero_out : spec_l09Zero = some z64 := by
 unfold spec_l09Zero
 rw [show mkL 1 64 64 (⟨0⟩ : Bt) = some (List.replicate 64 ⟨0⟩) from mkL_ok 1 64 (⟨0⟩ : Bt) (by decide) (by decide)]
 rfl
theorem l09New_out (n : Nat) (h : n ≤ 256) : spec_l09New n = some (List.replicate n z64, -1, false) := by
 unfold spec_l09New spec_l09New_l1
 have := loop_some (f := fun s : List Str × Int => spec_l09New_l1_b n 0 false (-1) false s.1 s.2) (r := ((0 : Int), false, List.replicate n z64, (-1 : Int), false)) n
  (fun i s => s = (List.replicate i z64, (i : Int))) (fun i s hi hs => by
   subst hs
   by_cases hlt : i < n
   ·refine .inr ⟨hlt, _, ?_, rfl⟩
    simp only [spec_l09New_l1_b]
    rw [if_pos (by omega), l09Zero_out, Option.bind_some, w1 (by omega)]
    have : appL 16 (List.replicate i z64) (lit [z64]) = some (List.replicate (i + 1) z64) := by
     unfold appL lit
     rw [if_pos (by simp [maxRow]; omega), List.replicate_succ']
    rw [this]; rfl
   ·have : i = n := by omega
    subst this
    refine .inl ?_
    simp only [spec_l09New_l1_b]
    rw [if_neg (by omega)]) n 0 ([], 0) (by omega) rfl
 rw [this]; rfl
def BlksOk (b : List Str) : Prop := 16 ≤ b.length ∧ b.length ≤ 256 ∧ ∀ x ∈ b, x.length = 64
theorem BlksOk.set {b : List Str} (h : BlksOk b) (k : Nat) {x : Str} (hx : x.length = 64) : BlksOk (b.set k x) :=
 ⟨by rw [List.length_set]; exact h.1, by rw [List.length_set]; exact h.2.1, fun y hy => by
  rcases List.mem_or_eq_of_mem_set hy with q | q
  ·exact h.2.2 y q
  ·rw [q]; exact hx⟩
abbrev SrcD := List Bt × Int × Int × DDisk
theorem dd_p4 (c : List Bt) (a s x : Int) (f : Bool) (d : DDisk) (h0 : 0 ≤ a) (h1 : a ≤ 700000) (hb : BlksOk d.1) : ∃ r : SrcD, spec_l10DrawDisk_o9d_p4 c a s x f d = some r := by
 unfold spec_l10DrawDisk_o9d_p4
 obtain ⟨a1, s1, b1, e1, l1⟩ := one_out c a s 12 h0 (by omega)
 rw [e1, Option.bind_some]
 simp only
 split
 ·have : cutO d.1 (some 1) none = some (d.1.drop 1) := by
   unfold cutO
   rw [show subL d.1 (some 1) none = some (d.1.drop 1) from subL_from d.1 1 (by have := hb.1; omega), Option.bind_some, if_neg]
   intro hh
   have h2 := congrArg List.length hh
   simp at h2
   have := hb.1
   omega
  rw [this]; exact ⟨_, rfl⟩
 ·exact ⟨_, rfl⟩
theorem dd_p3 (c : List Bt) (a s x : Int) (f : Bool) (u : DSuper) (b : List Str) (y : Int) (g : Bool) (h0 : 0 ≤ a) (h1 : a ≤ 600000) (hb : BlksOk b) (hu : SuperV u) : ∃ r : SrcD, spec_l10DrawDisk_o9d_p3 c a s x f u b y g = some r := by
 unfold spec_l10DrawDisk_o9d_p3
 obtain ⟨a1, s1, b1, e1, l1⟩ := one_out c a s 4 h0 (by omega)
 rw [e1, Option.bind_some]
 simp only
 split
 ·obtain ⟨a2, s2, k2, e2, l2, _⟩ := pick_out c a1 s1 2 (by omega) (by omega)
  rw [e2, Option.bind_some, l10Encode_out u hu.sin, Option.bind_some]
  simp only
  rw [show appL 24 ([] : List (Int × Str)) (lit [(k2, encS u)]) = some [(k2, encS u)] by unfold appL lit; rw [if_pos (by simp [maxRow])]; rfl, Option.bind_some]
  obtain ⟨r, hr⟩ := dd_p4 c a2 s2 x f (b, [(k2, encS u)], y, g) (by omega) (by omega) hb
  rw [hr]; exact ⟨_, rfl⟩
 ·obtain ⟨r, hr⟩ := dd_p4 c a1 s1 x f (b, [], y, g) (by omega) (by omega) hb
  rw [hr]; exact ⟨_, rfl⟩
theorem dd_p2 (c : List Bt) (a s x : Int) (f : Bool) (u : DSuper) (b : List Str) (y : Int) (g : Bool) (h0 : 0 ≤ a) (h1 : a ≤ 500000) (hb : BlksOk b) (hu : SuperV u) : ∃ r : SrcD, spec_l10DrawDisk_o9d_p2 c a s x f u b y g = some r := by
 unfold spec_l10DrawDisk_o9d_p2
 obtain ⟨a1, s1, b1, e1, l1⟩ := one_out c a s 3 h0 (by omega)
 rw [e1, Option.bind_some]
 simp only
 split
 case isFalse =>
  obtain ⟨r, hr⟩ := dd_p3 c a1 s1 x f u b y g (by omega) (by omega) hb hu
  rw [hr]; exact ⟨_, rfl⟩
 obtain ⟨a2, s2, k2, e2, l2, m2, n2⟩ := pick_out c a1 s1 2 (by omega) (by omega)
 rw [e2, Option.bind_some]
 simp only
 obtain ⟨a3, s3, k3, e3, l3, m3, n3⟩ := pick_out c a2 s2 64 (by omega) (by omega)
 rw [e3, Option.bind_some]
 simp only
 have hb1 := hb.1
 have hk : 0 ≤ k2 ∧ k2 < ((b.length : Nat) : Int) := by omega
 obtain ⟨z, hz⟩ := get_at (l := b) (i := k2.toNat) (by omega)
 have hzl := hb.2.2 z (List.mem_of_getElem? hz)
 obtain ⟨m, rfl⟩ : ∃ m : Nat, k3 = m := ⟨k3.toNat, by omega⟩
 have t1 : subL z none (some (m : Int)) = some (z.take m) := subL_to z m (by omega)
 have t2 : subL z (some ((m : Int) + 1)) none = some (z.drop (m + 1)) := by
  have := subL_from z (m + 1) (by omega)
  rw [← this]; simp
 rw [if_pos hk, hz, Option.bind_some, t1, Option.bind_some, if_pos hk, Option.bind_some, wrap_in (n := (m : Int) + 1) (by omega) (by omega), t2, Option.bind_some]
 obtain ⟨s4, v4, e4, _⟩ := next_out c a3 s3 (by omega) (by omega)
 rw [e4, Option.bind_some]
 simp only
 have hcond : (0 ≤ k2 ∧ k2 < ((b.length : Nat) : Int)) ∧ some z = some z ∧ some (z.take m) = some (z.take m) ∧ (0 ≤ k2 ∧ k2 < ((b.length : Nat) : Int)) ∧ some z = some z ∧ some (z.drop (m + 1)) = some (z.drop (m + 1)) := ⟨hk, rfl, rfl, hk, rfl, rfl⟩
 simp only [hk, and_self, if_true, t1, t2, hz]
 rw [if_pos (by simp [lit]; omega), if_pos (by simp [lit]; omega), Option.bind_some]
 obtain ⟨r, hr⟩ := dd_p3 c (a3 + 1) s4 x f u (b.set k2.toNat ((z.take m ++ (lit [(⟨UInt8.ofNat (IntKind.u8.wrap v4).toNat⟩ : Bt)]).map Bt.v) ++ z.drop (m + 1))) y g (by omega) (by omega) (hb.set _ (by simp [lit]; omega)) hu
 rw [hr]; exact ⟨_, rfl⟩
theorem dd_p1 (c : List Bt) (a s x : Int) (f : Bool) (u : DSuper) (h0 : 0 ≤ a) (h1 : a ≤ 400000) (hu : SuperV u) : ∃ r : SrcD, spec_l10DrawDisk_o9d_p1 c a s x f u = some r := by
 unfold spec_l10DrawDisk_o9d_p1
 have hu' := hu
 obtain ⟨q1, q2, _, _, _, q6, q7, q8, q9⟩ := hu'
 obtain ⟨n, hn⟩ : ∃ n : Nat, u.1 = n := ⟨u.1.toNat, by omega⟩
 have hb : BlksOk (List.replicate n z64) := ⟨by simp; omega, by simp; omega, fun y hy => by rw [(List.mem_replicate.1 hy).2]; simp [z64]⟩
 have tm : ∀ t : Int, 0 ≤ t → 0 ≤ Int.tmod t 2 ∧ Int.tmod t 2 ≤ 1 := fun t ht => by rw [Int.tmod_eq_emod_of_nonneg ht]; omega
 have ht := tm _ q8
 rw [hn, l09New_out n (by omega), Option.bind_some, l10Encode_out u hu.sin, Option.bind_some]
 simp only
 obtain ⟨z, hz⟩ := get_at (l := List.replicate n z64) (i := (Int.tmod u.2.2.2 2).toNat) (by simp; omega)
 rw [if_pos (by simp; omega), hz, Option.bind_some]
 have hb2 := hb.set (Int.tmod u.2.2.2 2).toNat (encS_length u)
 obtain ⟨a1, s1, b1, e1, l1⟩ := one_out c a s 3 h0 (by omega)
 rw [e1, Option.bind_some]
 simp only
 split
 case isFalse =>
  obtain ⟨r, hr⟩ := dd_p2 c a1 s1 x f u _ (-1) false (by omega) (by omega) hb2 hu
  rw [hr]; exact ⟨_, rfl⟩
 obtain ⟨a2, s2, k2, e2, l2, m2⟩ := among_out c a1 s1 (lit [1, 1, 3, 2]) (by simp [lit]) (by omega) (by omega)
 rw [e2, Option.bind_some, if_pos rfl]
 simp only
 obtain ⟨a3, s3, k3, e3, l3, m3, n3⟩ := pick_out c a2 s2 5 (by omega) (by omega)
 rw [e3, Option.bind_some]
 simp only
 have hmin : ∃ q, spec_l00Min (IntKind.i64.wrap (u.2.2.1 + k3)) 1000000000000 = some q := by unfold spec_l00Min; split <;> exact ⟨_, rfl⟩
 obtain ⟨q, hq⟩ := hmin
 rw [hq, Option.bind_some, sValidSuper_out, Option.bind_some]
 split
 case isFalse =>
  obtain ⟨r, hr⟩ := dd_p2 c a3 s3 x f u _ (-1) false (by omega) (by omega) hb2 hu
  rw [hr]; exact ⟨_, rfl⟩
 rename_i hv
 rw [deq] at hv
 have ht2 := tm (u.2.2.2 + 1) (by omega)
 rw [l10Encode_out _ hv.sin, Option.bind_some, wrap_in (n := u.2.2.2 + 1) (by omega) (by omega)]
 obtain ⟨z2, hz2⟩ := get_at (l := (List.replicate n z64).set (Int.tmod u.2.2.2 2).toNat (encS u)) (i := (Int.tmod (u.2.2.2 + 1) 2).toNat) (by simp; omega)
 rw [if_pos (by simp; omega), hz2, Option.bind_some]
 obtain ⟨r, hr⟩ := dd_p2 c a3 s3 x f u _ (-1) false (by omega) (by omega) (hb2.set (Int.tmod (u.2.2.2 + 1) 2).toNat (encS_length _)) hu
 rw [hr]; exact ⟨_, rfl⟩
theorem DrawChoose_out (c : List Bt) : ∃ d, spec_DrawChooseSuper c = some d := by
 unfold spec_DrawChooseSuper spec_l00From spec_l10DrawDisk_o9d
 obtain ⟨a1, s1, x1, e1, l1⟩ := l10Draw_out c 0 0 50 (by omega) (by omega)
 simp only [Option.bind_some]
 rw [e1, Option.bind_some, sValidSuper_out, Option.bind_some]
 split
 ·obtain ⟨r, hr⟩ := dd_p1 c a1 s1 0 false (16, 8, 0, 0) (by omega) (by omega) ⟨by decide, by decide, by decide, by decide, by decide, by decide, by decide, by decide, by decide⟩
  rw [hr]; exact ⟨_, rfl⟩
 ·rename_i hv
  obtain ⟨r, hr⟩ := dd_p1 c a1 s1 0 false x1 (by omega) (by omega) (by have := Classical.not_not.1 hv; rwa [deq] at this)
  rw [hr]; exact ⟨_, rfl⟩
end Go.Proofs.TM
