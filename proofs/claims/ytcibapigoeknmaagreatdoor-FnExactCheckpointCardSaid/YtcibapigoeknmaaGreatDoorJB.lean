import Derived.Test.YtcibapigoeknmaaGreatDoorJA
import Derived.Test.YtcibapigoeknmaaGreatDoorTReadR
namespace Go.Proofs.TM
open Go Go.Proofs
set_option linter.unusedVariables false
set_option linter.unusedSimpArgs false
set_option maxHeartbeats 1000000
theorem loop_back {α ρ : Type} (p : α → Bool) (f : Int → Option (Int ⊕ ρ)) (rN : ρ) (rF : α → ρ) (h3 : f (-1) = some (.inr rN)) : ∀ (m : Nat) (l : List α), l.length = m →
  (∀ (i : Nat) x, l[i]? = some x → p x = false → f (i : Int) = some (.inl ((i : Int) - 1))) →
  (∀ (i : Nat) x, l[i]? = some x → p x = true → f (i : Int) = some (.inr (rF x))) →
  loopO f ((m : Int) - 1) = some (match l.reverse.find? p with | some x => rF x | none => rN) := by
 intro m
 induction m with
 | zero =>
  intro l hl h1 h2
  obtain rfl := List.eq_nil_of_length_eq_zero hl
  rw [loopO_unfold, show ((0 : Nat) : Int) - 1 = -1 by omega, h3]; rfl
 | succ m ih =>
  intro l hl h1 h2
  obtain ⟨l', x, rfl⟩ : ∃ l' x, l = l' ++ [x] := by
   have := List.dropLast_concat_getLast (l := l) (by intro h; subst h; simp at hl)
   exact ⟨_, _, this.symm⟩
  have hl' : l'.length = m := by simpa using hl
  have hx : (l' ++ [x])[m]? = some x := by rw [← hl']; simp
  rw [loopO_unfold, show ((m + 1 : Nat) : Int) - 1 = (m : Int) by omega, List.reverse_append]
  simp only [List.reverse_cons, List.reverse_nil, List.nil_append, List.cons_append, List.find?_cons]
  cases hp : p x with
  | true => rw [h2 m x hx hp]; rfl
  | false =>
   rw [h1 m x hx hp]
   simp only [Option.bind_some, Sum.elim_inl]
   refine ih l' hl' (fun i y hy hpy => h1 i y ?_ hpy) (fun i y hy hpy => h2 i y ?_ hpy)
   ·rw [List.getElem?_append_left (List.getElem?_eq_some_iff.1 hy).1]; exact hy
   ·rw [List.getElem?_append_left (List.getElem?_eq_some_iff.1 hy).1]; exact hy
theorem l09Read_out (d : DDisk) (k : Int) (h : d.2.1.length ≤ 1048576) : spec_l09Read d k = readD d k := by
 unfold spec_l09Read spec_l09Read_l1 readD
 rw [wrap_in (by omega) (by omega), if_pos (by omega)]
 rw [loop_back (fun p : Int × Str => decide (p.1 = k)) (fun s => spec_l09Read_l1_b d.1 d.2.1 d.2.2.1 d.2.2.2 k s) (.inl (d.1, d.2.1, d.2.2.1, d.2.2.2, k)) (fun x => .inr x.2) (by simp [spec_l09Read_l1_b]) d.2.1.length d.2.1 rfl (fun i x hx hp => ?_) (fun i x hx hp => ?_)]
 ·rw [Option.bind_some]
  cases hf : d.2.1.reverse.find? (fun p => decide (p.1 = k)) with
  | some p => rfl
  | none =>
   simp only [Sum.elim_inl]
   split
   ·cases d.1[k.toNat]? <;> rfl
   ·rfl
 ·have hi := (List.getElem?_eq_some_iff.1 hx).1
  have hp' : ¬ x.1 = k := by simpa using hp
  simp only [spec_l09Read_l1_b]
  rw [if_pos (by omega), if_pos (by omega), Int.toNat_natCast, hx, Option.bind_some, if_neg hp', wrap_in (by omega) (by omega)]
 ·have hi := (List.getElem?_eq_some_iff.1 hx).1
  have hp' : x.1 = k := by simpa using hp
  simp only [spec_l09Read_l1_b]
  rw [if_pos (by omega), if_pos (by omega), Int.toNat_natCast, hx, Option.bind_some, if_pos hp', if_pos (by omega), Option.bind_some]
def rdD (d : DDisk) (k : Int) : Str := match d.2.1.reverse.find? (fun p => decide (p.1 = k)) with
 | some p => p.2
 | none => d.1.getD k.toNat []
theorem readD_out (d : DDisk) (k : Int) (hd : DiskV d) (h0 : 0 ≤ k) (h1 : k < (d.1.length : Int)) : readD d k = some (rdD d k) ∧ (rdD d k).length = 64 := by
 obtain ⟨a1, a2, a3, a4, a5, a6, a7⟩ := hd
 unfold readD rdD
 rw [if_pos (by omega)]
 cases hf : d.2.1.reverse.find? (fun p => decide (p.1 = k)) with
 | some p =>
  exact ⟨rfl, (a7 p (by have := List.mem_of_find?_eq_some hf; simpa using this)).2.2⟩
 | none =>
  simp only
  rw [if_pos h0]
  obtain ⟨x, hx⟩ := get_at (l := d.1) (i := k.toNat) (by omega)
  rw [List.getD_eq_getElem?_getD, hx]
  exact ⟨rfl, a6 x (List.mem_of_getElem? hx)⟩
end Go.Proofs.TM
namespace Go.Proofs.TM
open Go Go.Proofs
set_option linter.unusedVariables false
set_option linter.unusedSimpArgs false
set_option maxHeartbeats 1000000
theorem repeatL_zero (c : Nat) : Lib.repeatL [0] c = List.replicate c 0 := by
 induction c with
 | zero => rfl
 | succ c ih => simp [Lib.repeatL, ih, List.replicate_succ]
theorem zeros_out (n : Nat) (h : n ≤ 1048576) : impl_zeros n = some (List.replicate n 0) := by
 unfold impl_zeros strings_Repeat repS
 rw [if_pos ⟨by omega, by omega, by simp; omega⟩, Option.bind_some, Int.toNat_natCast, repeatL_zero]
theorem l01Pad_out (s : Str) (n : Nat) (hs : s.length ≤ n) (h : n ≤ 1048576) : spec_l01Pad s n = some (s ++ List.replicate (n - s.length) 0) := by
 unfold spec_l01Pad
 by_cases hc : (s.length : Int) ≥ n
 ·rw [if_pos hc, show n - s.length = 0 by omega]; simp
 ·rw [if_neg hc, wrap_in (by omega) (by omega), show (n : Int) - (s.length : Int) = ((n - s.length : Nat) : Int) by omega, mkL_ok 1 _ _ (by unfold maxRow; omega) (by unfold maxRow; omega), Option.bind_some, if_pos (by simp; omega)]
  simp
theorem padded_out (s : Str) (n : Nat) (hs : s.length ≤ n) (h : n ≤ 1048576) : impl_padded s n = some (s ++ List.replicate (n - s.length) 0) := by
 unfold impl_padded
 rw [wrap_in (by omega) (by omega), show (n : Int) - (s.length : Int) = ((n - s.length : Nat) : Int) by omega, zeros_out _ (by omega), Option.bind_some, if_pos (by simp; omega)]
end Go.Proofs.TM
namespace Go.Proofs.TM
open Go Go.Proofs
set_option linter.unusedVariables false
set_option linter.unusedSimpArgs false
set_option maxHeartbeats 1000000
theorem loop_build {β : Type} (n : Nat) (g : Nat → β) (f : List β × Int → Option ((List β × Int) ⊕ List β))
  (h1 : ∀ i : Nat, i < n → f ((List.range i).map g, (i : Int)) = some (.inl ((List.range (i + 1)).map g, (i : Int) + 1)))
  (h2 : f ((List.range n).map g, (n : Int)) = some (.inr ((List.range n).map g))) : loopO f ([], 0) = some ((List.range n).map g) := by
 refine loop_some n (fun i s => s = ((List.range i).map g, (i : Int))) (fun i s hi hs => ?_) n 0 _ (by omega) rfl
 subst hs
 by_cases hn : i < n
 ·exact .inr ⟨hn, _, h1 i hn, by simp⟩
 ·have : i = n := by omega
  subst this; exact .inl h2
theorem loop_fill {β : Type} (n : Nat) (g : Nat → β) (f : List β × Int → Option ((List β × Int) ⊕ List β)) (m : List β) (hm : m.length = n)
  (h1 : ∀ (m : List β) (i : Nat), i < n → m.length = n → f (m, (i : Int)) = some (.inl (m.set i (g i), (i : Int) + 1)))
  (h2 : ∀ m : List β, m.length = n → f (m, (n : Int)) = some (.inr m)) : loopO f (m, 0) = some ((List.range n).map g) := by
 refine loop_some n (fun i s => s.2 = (i : Int) ∧ s.1.length = n ∧ ∀ j, j < i → s.1[j]? = some (g j)) (fun i s hi hs => ?_) n 0 _ (by omega) ⟨rfl, hm, fun j hj => by omega⟩
 obtain ⟨m, k⟩ := s
 obtain ⟨rfl, hml, hall⟩ := hs
 simp only at hml hall ⊢
 by_cases hn : i < n
 ·refine .inr ⟨hn, _, h1 m i hn hml, by simp, by simp [hml], fun j hj => ?_⟩
  by_cases hji : j = i
  ·subst hji; simp only; rw [List.getElem?_set_self (by omega)]
  ·simp only; rw [List.getElem?_set_ne (by omega)]; exact hall j (by omega)
 ·have : i = n := by omega
  subst this
  refine .inl ?_
  rw [h2 m hml]
  congr 2
  apply List.ext_getElem?
  intro j
  by_cases hj : j < i
  ·rw [hall j hj]; simp [hj]
  ·rw [List.getElem?_eq_none (by omega), List.getElem?_eq_none (by simp; omega)]
theorem u8_wrap_eq (y : Int) : IntKind.u8.wrap y = y % 256 := by simp [IntKind.wrap, IntKind.bits, IntKind.signed]
theorem u64_wrap_in {y : Int} (h : 0 ≤ y) (h' : y < 18446744073709551616) : IntKind.u64.wrap y = y := by simp [IntKind.wrap, IntKind.bits, IntKind.signed]; omega
theorem and255 (y : Int) (h : -9223372036854775808 ≤ y) (h' : y ≤ 9223372036854775807) : bitV .and .i64 y 255 = y % 256 := by
 have e : ((BitVec.ofInt 64 y &&& BitVec.ofInt 64 255).toNat : Int) = y % 256 := by
  rw [BitVec.toNat_and, BitVec.toNat_ofInt, BitVec.toNat_ofInt]
  have : ((255 : Int) % ((2 ^ 64 : Nat) : Int)).toNat = 2 ^ 8 - 1 := by decide
  rw [this, Nat.and_two_pow_sub_one_eq_mod]
  omega
 show (bitsI .and .i64 y 255).getD 0 = _
 show IntKind.i64.wrap ((BitVec.ofInt 64 y &&& BitVec.ofInt 64 255).toNat : Int) = _
 rw [e]
 exact wrap_in (by omega) (by omega)
def byB (n : Int) (j : Nat) : Bt := ⟨UInt8.ofNat ((shrV .i64 n (8 * (j : Int))) % 256).toNat⟩
def leB (n : Int) (k : Nat) : Str := (List.range k).map fun j => (byB n j).v
@[simp] theorem leB_length (n : Int) (k : Nat) : (leB n k).length = k := by simp [leB]
theorem leB_map (n : Int) (k : Nat) : ((List.range k).map (byB n)).map Bt.v = leB n k := by simp [leB, Function.comp_def]
theorem shr_in {n : Int} (c : Int) (h : -9223372036854775808 ≤ n) (h' : n ≤ 9223372036854775807) : -9223372036854775808 ≤ shrV .i64 n c ∧ shrV .i64 n c ≤ 9223372036854775807 := by
 unfold shrV
 rw [Int.fdiv_eq_ediv_of_nonneg _ (by exact Int.pow_nonneg (by omega))]
 have hp : (0 : Int) < 2 ^ (min c.toNat (IntKind.bits .i64)) := Int.pow_pos (by omega)
 generalize (2 : Int) ^ (min c.toNat (IntKind.bits .i64)) = p at hp
 constructor
 ·rcases Int.lt_or_le n 0 with h0 | h0
  ·exact Int.le_ediv_of_mul_le hp (by omega)
  ·exact Int.le_trans (by omega) (Int.ediv_nonneg h0 (by omega))
 ·rcases Int.lt_or_le n 0 with h0 | h0
  ·have := Int.ediv_neg_of_neg_of_pos h0 hp
   omega
  ·exact Int.le_trans (Int.ediv_le_self _ h0) h'
end Go.Proofs.TM
namespace Go.Proofs.TM
open Go Go.Proofs
set_option linter.unusedVariables false
set_option linter.unusedSimpArgs false
set_option maxHeartbeats 1000000
theorem l01Bytes_out (n : Int) (k : Nat) (hk : k ≤ 8) (h : -9223372036854775808 ≤ n) (h' : n ≤ 9223372036854775807) : spec_l01Bytes n k = some (leB n k) := by
 unfold spec_l01Bytes spec_l01Bytes_l1
 rw [loop_build k (byB n) (fun s => spec_l01Bytes_l1_b n k s.1 s.2) (fun i hi => ?_) (by simp [spec_l01Bytes_l1_b])]
 ·rw [Option.bind_some, leB_map]
 ·simp only [spec_l01Bytes_l1_b]
  rw [if_pos (by omega), u64_wrap_in (y := (i : Int)) (by omega) (by omega), u64_wrap_in (by omega) (by omega), if_neg (by omega)]
  have hs := shr_in (8 * (i : Int)) h h'
  rw [and255 _ hs.1 hs.2, u8_wrap_eq, show (shrV .i64 n (8 * (i : Int))) % 256 % 256 = (shrV .i64 n (8 * (i : Int))) % 256 by omega]
  unfold appL
  rw [if_pos (by simp [lit, maxRow]; omega), Option.bind_some, w1 (by omega)]
  simp [List.range_succ, lit, byB]
end Go.Proofs.TM
namespace Go.Proofs.TM
open Go Go.Proofs
set_option linter.unusedVariables false
set_option linter.unusedSimpArgs false
set_option maxHeartbeats 1000000
theorem putBytes_out (n : Int) (k : Nat) (hk : k ≤ 8) : impl_putBytes n k = some (leB n k) := by
 unfold impl_putBytes impl_putBytes_l1
 rw [mkL_ok 1 _ _ (by unfold maxRow; omega) (by unfold maxRow; omega), Option.bind_some]
 rw [loop_fill k (byB n) (fun s => impl_putBytes_l1_b n _ s.1 s.2) _ (by simp) (fun m i hi hm => ?_) (fun m hm => ?_)]
 ·rw [Option.bind_some, leB_map]
 ·simp only [impl_putBytes_l1_b]
  obtain ⟨x, hx⟩ := get_at (l := m) (by omega : i < m.length)
  rw [List.length_replicate, if_pos (by omega), wrap_in (n := 8 * (i : Int)) (by omega) (by omega), if_neg (by omega), if_pos (by omega), Int.toNat_natCast, hx, Option.bind_some, w1 (by omega), u8_wrap_eq]
  rfl
 ·simp only [impl_putBytes_l1_b]
  rw [List.length_replicate, if_neg (by omega)]
end Go.Proofs.TM
namespace Go.Proofs.TM
open Go Go.Proofs
set_option linter.unusedVariables false
set_option linter.unusedSimpArgs false
set_option maxHeartbeats 1000000
def halfS (s : DSuper) : Str := [65, 82, 82, 83] ++ leB 1 1 ++ leB s.1 2 ++ leB s.2.1 2 ++ leB s.2.2.1 8 ++ leB s.2.2.2 8 ++ List.replicate 7 0
def encS (s : DSuper) : Str := halfS s ++ halfS s
theorem halfS_length (s : DSuper) : (halfS s).length = 32 := by simp [halfS]
theorem encS_length (s : DSuper) : (encS s).length = 64 := by simp [encS, halfS_length]
def SIn (s : DSuper) : Prop := (-9223372036854775808 ≤ s.1 ∧ s.1 ≤ 9223372036854775807) ∧ (-9223372036854775808 ≤ s.2.1 ∧ s.2.1 ≤ 9223372036854775807) ∧ (-9223372036854775808 ≤ s.2.2.1 ∧ s.2.2.1 ≤ 9223372036854775807) ∧ (-9223372036854775808 ≤ s.2.2.2 ∧ s.2.2.2 ≤ 9223372036854775807)
theorem l10Encode_out (s : DSuper) (h : SIn s) : spec_l10Encode s = some (encS s) := by
 obtain ⟨⟨a, b⟩, ⟨c, d⟩, ⟨e, f⟩, g, i⟩ := h
 unfold spec_l10Encode
 have k1 : spec_l01Bytes 1 1 = some (leB 1 1) := l01Bytes_out 1 1 (by omega) (by omega) (by omega)
 have k2 : spec_l01Bytes s.1 2 = some (leB s.1 2) := l01Bytes_out s.1 2 (by omega) a b
 have k3 : spec_l01Bytes s.2.1 2 = some (leB s.2.1 2) := l01Bytes_out s.2.1 2 (by omega) c d
 have k4 : spec_l01Bytes s.2.2.1 8 = some (leB s.2.2.1 8) := l01Bytes_out s.2.2.1 8 (by omega) e f
 have k5 : spec_l01Bytes s.2.2.2 8 = some (leB s.2.2.2 8) := l01Bytes_out s.2.2.2 8 (by omega) g i
 rw [k1, Option.bind_some, if_pos (by simp), k2, Option.bind_some, if_pos (by simp), k3, Option.bind_some, if_pos (by simp), k4, Option.bind_some, if_pos (by simp), k5, Option.bind_some]
 have k6 : spec_l01Pad ([65, 82, 82, 83] ++ leB 1 1 ++ leB s.1 2 ++ leB s.2.1 2 ++ leB s.2.2.1 8 ++ leB s.2.2.2 8) 32 = some (halfS s) := l01Pad_out ([65, 82, 82, 83] ++ leB 1 1 ++ leB s.1 2 ++ leB s.2.1 2 ++ leB s.2.2.1 8 ++ leB s.2.2.2 8) 32 (by simp) (by omega)
 rw [if_pos (by simp), k6, Option.bind_some, if_pos (by simp [halfS_length])]
 rfl
theorem encode_out (s : DSuper) : impl_Super_encode s = some (encS s) := by
 unfold impl_Super_encode
 have k1 : impl_putBytes 1 1 = some (leB 1 1) := putBytes_out 1 1 (by omega)
 have k2 : impl_putBytes s.1 2 = some (leB s.1 2) := putBytes_out s.1 2 (by omega)
 have k3 : impl_putBytes s.2.1 2 = some (leB s.2.1 2) := putBytes_out s.2.1 2 (by omega)
 have k4 : impl_putBytes s.2.2.1 8 = some (leB s.2.2.1 8) := putBytes_out s.2.2.1 8 (by omega)
 have k5 : impl_putBytes s.2.2.2 8 = some (leB s.2.2.2 8) := putBytes_out s.2.2.2 8 (by omega)
 rw [k1, Option.bind_some, if_pos (by simp), k2, Option.bind_some, if_pos (by simp), k3, Option.bind_some, if_pos (by simp), k4, Option.bind_some, if_pos (by simp), k5, Option.bind_some]
 have k6 : impl_padded ([65, 82, 82, 83] ++ leB 1 1 ++ leB s.1 2 ++ leB s.2.1 2 ++ leB s.2.2.1 8 ++ leB s.2.2.2 8) 32 = some (halfS s) := padded_out ([65, 82, 82, 83] ++ leB 1 1 ++ leB s.1 2 ++ leB s.2.1 2 ++ leB s.2.2.1 8 ++ leB s.2.2.2 8) 32 (by simp) (by omega)
 rw [if_pos (by simp), k6, Option.bind_some, if_pos (by simp [halfS_length])]
 rfl
theorem SuperV.sin {s : DSuper} (h : SuperV s) : SIn s := by
 obtain ⟨a1, a2, a3, a4, a5, a6, a7, a8, a9⟩ := h
 exact ⟨⟨by omega, by omega⟩, ⟨by omega, by omega⟩, ⟨by omega, by omega⟩, by omega, by omega⟩
end Go.Proofs.TM
namespace Go.Proofs.TM
open Go Go.Proofs
set_option linter.unusedVariables false
set_option linter.unusedSimpArgs false
set_option maxHeartbeats 1000000
theorem u8_zero {c : UInt8} (h : (c.toNat : Int) = 0) : c = 0 := UInt8.toNat_inj.1 (by show c.toNat = 0; omega)
theorem trim_out : ∀ (n : Nat) (s : Str), s.length = n → n ≤ 1048576 → ∃ t, strings_trimRightByte s 0 = some t ∧ (t = [] ↔ ∀ b ∈ s, b = 0) := by
 intro n
 induction n with
 | zero =>
  intro s hs _
  have : s = [] := List.eq_nil_of_length_eq_zero hs
  subst this
  refine ⟨[], ?_, by simp⟩
  unfold strings_trimRightByte strings_trimRightByte_l1
  rw [loopO_inr (r := []) (by simp [strings_trimRightByte_l1_b])]; rfl
 | succ n ih =>
  intro s hs hn
  obtain ⟨c, hc⟩ := get_at (l := s) (i := n) (by omega)
  have hsp : s = s.take n ++ [c] := by
   have h1 : s.take (n + 1) = s.take n ++ [c] := by rw [List.take_add_one, hc]; rfl
   rw [List.take_of_length_le (by omega)] at h1
   exact h1
  have step : strings_trimRightByte_l1_b 0 s = if c = 0 then some (.inl (s.take n)) else some (.inr s) := by
   simp only [strings_trimRightByte_l1_b]
   rw [if_pos (by omega), wrap_in (by omega) (by omega), if_pos (by omega), show ((s.length : Int) - 1).toNat = n by omega, hc, Option.bind_some]
   by_cases h0 : c = 0
   ·subst h0
    rw [if_pos (by rfl), if_pos rfl, show (s.length : Int) - 1 = ((n : Nat) : Int) by omega, subL_to s n (by omega)]; rfl
   ·rw [if_neg (fun h => h0 (u8_zero h)), if_neg h0]
  by_cases h0 : c = 0
  ·obtain ⟨t, h1, h2⟩ := ih (s.take n) (by simp; omega) (by omega)
   refine ⟨t, ?_, ?_⟩
   ·unfold strings_trimRightByte strings_trimRightByte_l1 at h1 ⊢
    rw [loopO_inl (s' := s.take n) (by rw [step, if_pos h0])]
    exact h1
   ·rw [h2]
    conv => rhs; rw [hsp]
    simp only [List.mem_append, List.mem_singleton, h0]
    exact ⟨fun h b hb => hb.elim (h b) id, fun h b hb => h b (.inl hb)⟩
  ·refine ⟨s, ?_, ?_⟩
   ·unfold strings_trimRightByte strings_trimRightByte_l1
    rw [loopO_inr (r := s) (by rw [step, if_neg h0])]; rfl
   ·constructor
    ·intro h; rw [h] at hs; simp at hs
    ·intro h; exact absurd (h c (List.mem_of_getElem? hc)) h0
theorem trimmed_out (s : Str) (h : s.length ≤ 1048576) : ∃ t, impl_trimmed s = some t ∧ (t = [] ↔ ∀ b ∈ s, b = 0) := by
 unfold impl_trimmed strings_TrimRight
 by_cases hs : s = []
 ·subst hs; exact ⟨[], by simp, by simp⟩
 ·rw [if_neg hs]
  obtain ⟨t, h1, h2⟩ := trim_out _ s rfl h
  exact ⟨t, by rw [h1]; rfl, h2⟩
theorem zeros_iff (l : Str) (n : Nat) (h : l.length = n) : l = List.replicate n 0 ↔ ∀ b ∈ l, b = 0 := by
 subst h
 rw [List.eq_replicate_iff]; simp
end Go.Proofs.TM
namespace Go.Proofs.TM
open Go Go.Proofs
set_option linter.unusedVariables false
set_option linter.unusedSimpArgs false
set_option maxHeartbeats 1000000
def barL (b : List Str) (p : List (Int × Str)) : Nat → List Str
 | 0 => b
 | i + 1 => (barL b p i).set (p.getD i (0, [])).1.toNat (p.getD i (0, [])).2
theorem barL_len (b : List Str) (p : List (Int × Str)) : ∀ i, (barL b p i).length = b.length
 | 0 => rfl
 | i + 1 => by simp [barL, barL_len b p i]
theorem barL_64 (b : List Str) (p : List (Int × Str)) (hb : ∀ x ∈ b, x.length = 64) (hp : ∀ x ∈ p, x.2.length = 64) : ∀ i, i ≤ p.length → ∀ x ∈ barL b p i, x.length = 64
 | 0, _ => hb
 | i + 1, hi => fun x hx => by
  simp only [barL] at hx
  rcases List.mem_or_eq_of_mem_set hx with h | h
  ·exact barL_64 b p hb hp i (by omega) x h
  ·obtain ⟨y, hy⟩ := get_at (show i < p.length by omega)
   subst h
   simp only [List.getD_eq_getElem?_getD, hy, Option.getD_some]
   exact hp y (List.mem_of_getElem? hy)
def decF (f : Int) : Int := if f > 0 then f - 1 else f
def offD (d : DDisk) : DDisk := (d.1, d.2.1, d.2.2.1, true)
def NoPow (d : DDisk) : Prop := d.2.2.2 = true ∨ d.2.2.1 = 0
instance (d : DDisk) : Decidable (NoPow d) := inferInstanceAs (Decidable (_ ∨ _))
def barD (d : DDisk) : DDisk × Int := if NoPow d then (offD d, 13) else ((barL d.1 d.2.1 d.2.1.length, [], decF d.2.2.1, d.2.2.2), 0)
def wrD (d : DDisk) (k : Int) (b : Str) : DDisk × Int := if NoPow d then (offD d, 13) else ((d.1, d.2.1 ++ [(k, b)], decF d.2.2.1, d.2.2.2), 0)
def andD (r : DDisk × Int) (f : DDisk → DDisk × Int) : DDisk × Int := if r.2 = 0 then f r.1 else r
def wrL : DDisk → List (Int × Str) → DDisk × Int
 | d, [] => (d, 0)
 | d, x :: l => andD (wrD d x.1 x.2) fun e => wrL e l
def zB : Str := List.replicate 64 0
def clrD : DDisk → Nat → Int → DDisk × Int
 | d, 0, _ => (d, 0)
 | d, n + 1, k => if rdD d k = zB then clrD d n (k + 1) else andD (wrD d k zB) fun e => clrD e n (k + 1)
def ckD (d : DDisk) (l : List (Int × Str)) (s : DSuper) (n : Nat) : DDisk × Int :=
 andD (barD d) fun d => andD (wrL d l) fun d => andD (barD d) fun d => andD (wrD d (Int.tmod s.2.2.2 2) (encS s)) fun d => andD (barD d) fun d => andD (clrD d n 2) fun d => barD d
def DInv (n m : Nat) (d : DDisk) : Prop := DiskV d ∧ d.1.length = n ∧ d.2.1.length ≤ m
theorem decF_in {f : Int} (h0 : -1 ≤ f) (h1 : f ≤ 100000) : -1 ≤ decF f ∧ decF f ≤ 100000 := by unfold decF; split <;> omega
theorem offD_inv {n m : Nat} {d : DDisk} (h : DInv n m d) : DInv n m (offD d) := h
theorem barD_inv {n m : Nat} {d : DDisk} (h : DInv n m d) : ((barD d).2 = 0 ∧ DInv n 0 (barD d).1) ∨ ((barD d).2 = 13 ∧ DInv n m (barD d).1) := by
 obtain ⟨⟨a1, a2, a3, a4, a5, a6, a7⟩, h2, h3⟩ := h
 unfold barD
 split
 ·exact .inr ⟨rfl, ⟨a1, a2, a3, a4, a5, a6, a7⟩, h2, h3⟩
 ·have := decF_in a4 a5
  exact .inl ⟨rfl, ⟨by simp only [barL_len]; exact a1, by simp only [barL_len]; exact a2, by simp, this.1, this.2, fun x hx => barL_64 _ _ a6 (fun x hx => (a7 x hx).2.2) _ (Nat.le_refl _) x hx, by simp⟩, by simp only [barL_len]; exact h2, by simp⟩
theorem wrD_inv {n m : Nat} {d : DDisk} (h : DInv n m d) {k : Int} {b : Str} (h0 : 0 ≤ k) (h1 : k < n) (hb : b.length = 64) (hm : m < 600) : ((wrD d k b).2 = 0 ∨ (wrD d k b).2 = 13) ∧ DInv n (m + 1) (wrD d k b).1 := by
 obtain ⟨⟨a1, a2, a3, a4, a5, a6, a7⟩, h2, h3⟩ := h
 unfold wrD
 split
 ·exact ⟨.inr rfl, ⟨a1, a2, a3, a4, a5, a6, a7⟩, h2, by show d.2.1.length ≤ m + 1; omega⟩
 ·have := decF_in a4 a5
  refine ⟨.inl rfl, ⟨a1, a2, by simp only [List.length_append, List.length_singleton]; omega, this.1, this.2, a6, fun x hx => ?_⟩, h2, by simp only [List.length_append, List.length_singleton]; omega⟩
  rcases List.mem_append.1 hx with h | h
  ·exact a7 x h
  ·simp only [List.mem_singleton] at h; subst h; exact ⟨h0, by simp only; omega, hb⟩
theorem wrL_inv {n : Nat} : ∀ (l : List (Int × Str)) (m : Nat) (d : DDisk), DInv n m d → (∀ x ∈ l, 0 ≤ x.1 ∧ x.1 < n ∧ x.2.length = 64) → m + l.length ≤ 600 → ((wrL d l).2 = 0 ∨ (wrL d l).2 = 13) ∧ DInv n (m + l.length) (wrL d l).1
 | [], m, d, h, _, _ => ⟨.inl rfl, h⟩
 | x :: l, m, d, h, hl, hm => by
  have hx := hl x (by simp)
  simp only [List.length_cons] at hm ⊢
  obtain ⟨h1, h2⟩ := wrD_inv h hx.1 hx.2.1 hx.2.2 (by omega)
  simp only [wrL, andD]
  split
  ·have := wrL_inv l (m + 1) _ h2 (fun y hy => hl y (by simp [hy])) (by omega)
   rw [show m + 1 + l.length = m + (l.length + 1) by omega] at this
   exact this
  ·exact ⟨h1, h2.1, h2.2.1, by have := h2.2.2; omega⟩
theorem zB_len : zB.length = 64 := by simp [zB]
theorem clrD_inv {n : Nat} : ∀ (c m : Nat) (k : Int) (d : DDisk), DInv n m d → 0 ≤ k → k + c ≤ n → m + c ≤ 600 → ((clrD d c k).2 = 0 ∨ (clrD d c k).2 = 13) ∧ DInv n (m + c) (clrD d c k).1
 | 0, m, k, d, h, _, _, _ => ⟨.inl rfl, h⟩
 | c + 1, m, k, d, h, h0, h1, hm => by
  simp only [clrD]
  split
  ·obtain ⟨g1, g2⟩ := clrD_inv c m (k + 1) d h (by omega) (by omega) (by omega)
   exact ⟨g1, g2.1, g2.2.1, by have := g2.2.2; omega⟩
  ·obtain ⟨g1, g2⟩ := wrD_inv h h0 (by omega) zB_len (by omega)
   simp only [andD]
   split
   ·have := clrD_inv c (m + 1) (k + 1) _ g2 (by omega) (by omega) (by omega)
    rw [show m + 1 + c = m + (c + 1) by omega] at this
    exact this
   ·exact ⟨g1, g2.1, g2.2.1, by have := g2.2.2; omega⟩
theorem wr_loop {σ ρ : Type} {n m : Nat} (l : List (Int × Str)) (hl : ∀ x ∈ l, 0 ≤ x.1 ∧ x.1 < n ∧ x.2.length = 64) (hm : m + l.length ≤ 600) (E : DDisk → Nat → σ) (F : DDisk → ρ) (G : DDisk × Int → ρ) (f : σ → Option (σ ⊕ ρ))
  (h1 : ∀ (d : DDisk) (i : Nat) (x : Int × Str), DInv n (m + i) d → i < l.length → l[i]? = some x → f (E d i) = some (if (wrD d x.1 x.2).2 = 0 then .inl (E (wrD d x.1 x.2).1 (i + 1)) else .inr (G (wrD d x.1 x.2))))
  (h2 : ∀ d, DInv n (m + l.length) d → f (E d l.length) = some (.inr (F d))) : ∀ (c i : Nat) (d : DDisk), l.length - i = c → i ≤ l.length → DInv n (m + i) d → loopO f (E d i) = some (if (wrL d (l.drop i)).2 = 0 then F (wrL d (l.drop i)).1 else G (wrL d (l.drop i)))
 | 0, i, d, hc, hi, hd => by
  have : i = l.length := by omega
  subst this
  rw [loopO_inr (f := f) (h2 d hd), List.drop_of_length_le (Nat.le_refl _)]; rfl
 | c + 1, i, d, hc, hi, hd => by
  obtain ⟨x, hx⟩ := get_at (show i < l.length by omega)
  have hx2 := hl x (List.mem_of_getElem? hx)
  have hs := h1 d i x hd (by omega) hx
  have hdr : l.drop i = x :: l.drop (i + 1) := by
   obtain ⟨h3, h4⟩ := List.getElem?_eq_some_iff.1 hx
   rw [← h4]; exact List.drop_eq_getElem_cons h3
  rw [hdr]
  simp only [wrL, andD]
  by_cases hz : (wrD d x.1 x.2).2 = 0
  ·rw [if_pos hz] at hs
   rw [loopO_inl (f := f) hs, if_pos hz]
   exact wr_loop l hl hm E F G f h1 h2 c (i + 1) _ (by omega) (by omega) (wrD_inv hd hx2.1 hx2.2.1 hx2.2.2 (by omega)).2
  ·rw [if_neg hz] at hs
   rw [loopO_inr (f := f) hs, if_neg hz, if_neg hz]
theorem clr_loop {σ ρ : Type} {n : Nat} (N : Nat) (hN : N + 2 ≤ n) (h64 : N ≤ 600) (E : DDisk → Nat → σ) (F : DDisk → ρ) (G : DDisk × Int → ρ) (f : σ → Option (σ ⊕ ρ))
  (h1 : ∀ (d : DDisk) (i : Nat), DInv n i d → i < N → f (E d i) = some (if rdD d (2 + i) = zB then .inl (E d (i + 1)) else if (wrD d (2 + i) zB).2 = 0 then .inl (E (wrD d (2 + i) zB).1 (i + 1)) else .inr (G (wrD d (2 + i) zB))))
  (h2 : ∀ d, DInv n N d → f (E d N) = some (.inr (F d))) : ∀ (c i : Nat) (d : DDisk), N - i = c → i ≤ N → DInv n i d → loopO f (E d i) = some (if (clrD d c (2 + i)).2 = 0 then F (clrD d c (2 + i)).1 else G (clrD d c (2 + i)))
 | 0, i, d, hc, hi, hd => by
  have : i = N := by omega
  subst this
  rw [loopO_inr (f := f) (h2 d hd)]; rfl
 | c + 1, i, d, hc, hi, hd => by
  have hs := h1 d i hd (by omega)
  have hk : (2 : Int) + (i : Int) + 1 = 2 + ((i + 1 : Nat) : Int) := by omega
  by_cases hr : rdD d (2 + i) = zB
  ·have hcl : clrD d (c + 1) (2 + i) = clrD d c (2 + ((i + 1 : Nat) : Int)) := by rw [← hk]; simp only [clrD, if_pos hr]
   rw [hcl]
   rw [if_pos hr] at hs
   rw [loopO_inl (f := f) hs]
   exact clr_loop N hN h64 E F G f h1 h2 c (i + 1) d (by omega) (by omega) ⟨hd.1, hd.2.1, by have := hd.2.2; omega⟩
  ·have hcl : clrD d (c + 1) (2 + i) = andD (wrD d (2 + i) zB) fun e => clrD e c (2 + ((i + 1 : Nat) : Int)) := by rw [← hk]; simp only [clrD, if_neg hr]
   rw [hcl]
   rw [if_neg hr] at hs
   by_cases hz : (wrD d (2 + i) zB).2 = 0
   ·rw [if_pos hz] at hs
    rw [loopO_inl (f := f) hs, show andD (wrD d (2 + i) zB) (fun e => clrD e c (2 + ((i + 1 : Nat) : Int))) = clrD (wrD d (2 + i) zB).1 c (2 + ((i + 1 : Nat) : Int)) from if_pos hz]
    exact clr_loop N hN h64 E F G f h1 h2 c (i + 1) _ (by omega) (by omega) (wrD_inv hd (by omega) (by omega) zB_len (by omega)).2
   ·rw [if_neg hz] at hs
    rw [loopO_inr (f := f) hs, show andD (wrD d (2 + i) zB) (fun e => clrD e c (2 + ((i + 1 : Nat) : Int))) = wrD d (2 + i) zB from if_neg hz, if_neg hz]
end Go.Proofs.TM
