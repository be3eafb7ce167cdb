/- Numbers out of bytes; a superblock out of its block. -/
import Derived.Test.YtmgkjmeoaegfaaaLEnc
namespace Go.Proofs.TM
open Go Go.Proofs
set_option linter.unusedVariables false
set_option linter.unusedSimpArgs false
set_option maxHeartbeats 1000000

theorem loopO_inl {σ ρ : Type} {f : σ → Option (σ ⊕ ρ)} {s s' : σ} (h : f s = some (.inl s')) : loopO f s = loopO f s' := by rw [loopO_unfold, h]; rfl
theorem loopO_inr {σ ρ : Type} {f : σ → Option (σ ⊕ ρ)} {s : σ} {r : ρ} (h : f s = some (.inr r)) : loopO f s = some r := by rw [loopO_unfold, h]; rfl

/-- The number that bytes are, the least one first. -/
def leN : Str → Nat
  | [] => 0
  | b :: s => b.toNat + 256 * leN s
theorem leN_lt : ∀ s : Str, leN s < 256 ^ s.length
  | [] => by simp [leN]
  | b :: s => by
    have := leN_lt s
    have hb : b.toNat < 256 := b.toNat_lt
    simp only [leN, List.length_cons, Nat.pow_succ]
    omega
theorem leN_append : ∀ (s t : Str), leN (s ++ t) = leN s + 256 ^ s.length * leN t
  | [], t => by simp [leN]
  | b :: s, t => by
    simp only [List.cons_append, leN, leN_append s t, List.length_cons, Nat.pow_succ, Nat.mul_add]
    rw [show 256 ^ s.length * 256 * leN t = 256 * (256 ^ s.length * leN t) by rw [Nat.mul_comm (256 ^ s.length) 256, Nat.mul_assoc]]
    omega
theorem leN_drop_le (s : Str) (j : Nat) : leN (s.drop j) ≤ leN s := by
  induction s generalizing j with
  | nil => simp
  | cons b s ih =>
    cases j with
    | zero => simp
    | succ j =>
      have := ih j
      simp only [List.drop_succ_cons, leN]; omega

theorem pow256 (i : Nat) : (2 : Int) ^ (8 * i) = ((256 ^ i : Nat) : Int) := by
  rw [Int.pow_mul]; simp
theorem p256_lt {i : Nat} (h : i < 8) : 256 * 256 ^ i ≤ 18446744073709551616 := by
  have : 256 ^ i ≤ 256 ^ 7 := Nat.pow_le_pow_right (by omega) (by omega)
  have : (256 : Nat) ^ 7 = 72057594037927936 := by decide
  omega

theorem or_u64 (x b i : Nat) (hx : x < 256 ^ i) (hb : b < 256) (hi : i < 8) : bitV .or .u64 (x : Int) (shlV .u64 (b : Int) (8 * (i : Int))) = ((x + 256 ^ i * b : Nat) : Int) := by
  have hp := p256_lt hi
  have hbm : 256 ^ i * b ≤ 256 ^ i * 255 := Nat.mul_le_mul_left _ (by omega)
  have e1 : shlV .u64 (b : Int) (8 * (i : Int)) = ((256 ^ i * b : Nat) : Int) := by
    unfold shlV
    rw [show min (8 * (i : Int)).toNat (IntKind.bits .u64) = 8 * i by show min (8 * (i : Int)).toNat 64 = _; omega, pow256]
    rw [← Int.natCast_mul, Nat.mul_comm]
    exact u64_wrap_in (by omega) (by omega)
  rw [e1]
  show IntKind.u64.wrap ((BitVec.ofInt 64 (x : Int) ||| BitVec.ofInt 64 ((256 ^ i * b : Nat) : Int)).toNat : Int) = _
  have e2 : (BitVec.ofInt 64 (x : Int) ||| BitVec.ofInt 64 ((256 ^ i * b : Nat) : Int)).toNat = x + 256 ^ i * b := by
    rw [BitVec.toNat_or, BitVec.toNat_ofInt, BitVec.toNat_ofInt]
    rw [show (((x : Nat) : Int) % ((2 ^ 64 : Nat) : Int)).toNat = x by omega, show (((256 ^ i * b : Nat) : Int) % ((2 ^ 64 : Nat) : Int)).toNat = 256 ^ i * b by omega]
    have h2 : (256 : Nat) ^ i = 2 ^ (8 * i) := by rw [Nat.pow_mul]
    rw [h2] at hx ⊢
    rw [Nat.or_comm, ← Nat.two_pow_add_eq_or_of_lt hx]
    omega
  rw [e2]
  exact u64_wrap_in (by omega) (by omega)

theorem getBits_out (s : Str) (h : s.length ≤ 8) : impl_getBits s = some (leN s : Int) := by
  unfold impl_getBits impl_getBits_l1
  rw [loop_some (f := fun t => impl_getBits_l1_b s s.length t.1 t.2) (r := (leN s : Int)) s.length (fun i t => t = ((leN (s.take i) : Int), (i : Int))) (fun i t hi ht => ?_) s.length 0 _ (by omega) (by simp [leN])]
  · rfl
  · subst ht
    simp only [impl_getBits_l1_b]
    by_cases hn : i < s.length
    · obtain ⟨b, hb⟩ := get_at hn
      rw [if_pos (by omega), if_pos (by omega), Int.toNat_natCast, hb, Option.bind_some, wrap_in (n := 8 * (i : Int)) (by omega) (by omega), if_neg (by omega), u64_wrap_in (by omega) (by have := b.toNat_lt; omega)]
      refine .inr ⟨hn, _, rfl, ?_⟩
      have ht : s.take (i + 1) = s.take i ++ [b] := by rw [List.take_add_one, hb]; rfl
      have hl : (s.take i).length = i := by simp; omega
      have hlt := leN_lt (s.take i)
      rw [hl] at hlt
      rw [or_u64 _ _ _ hlt b.toNat_lt (by omega), ht, leN_append, hl, w1 (by omega)]
      simp [leN]
    · have : i = s.length := by omega
      subst this
      rw [if_neg (by omega), List.take_length]
      exact .inl rfl

theorem l01GetUint_out (s : Str) (at_ k : Nat) (hk : 1 ≤ k ∧ k ≤ 8) (h : at_ + k ≤ s.length) (hs : s.length ≤ 1048576) :
    spec_l01GetUint s at_ k = some (if leN ((s.drop at_).take k) < 9223372036854775808 then ((leN ((s.drop at_).take k) : Int), true) else (0, false)) := by
  have hpl : ((s.drop at_).take k).length = k := by simp; omega
  have hget : ∀ j, j < k → s[at_ + j]? = ((s.drop at_).take k)[j]? := fun j hj => by rw [List.getElem?_take, if_pos hj, List.getElem?_drop]
  generalize hp : (s.drop at_).take k = p at hpl hget
  have loop : leN p < 9223372036854775808 → spec_l01GetUint_p1 s at_ k = some ((leN p : Int), true) := fun hlt => by
    unfold spec_l01GetUint_p1 spec_l01GetUint_l2
    rw [wrap_in (by omega) (by omega)]
    rw [loop_some (f := fun t => spec_l01GetUint_l2_b s at_ t.1 t.2) (r := (leN p : Int)) k (fun i t => t = ((leN (p.drop (k - i)) : Int), (k : Int) - 1 - i)) (fun i t hi ht => ?_) k 0 _ (by omega) (by rw [List.drop_of_length_le (by omega)]; simp [leN])]
    · rfl
    · subst ht
      simp only [spec_l01GetUint_l2_b]
      by_cases hn : i < k
      · obtain ⟨b, hb⟩ := get_at (l := p) (i := k - 1 - i) (by omega)
        have hd : p.drop (k - (i + 1)) = b :: p.drop (k - i) := by
          rw [show k - (i + 1) = k - 1 - i by omega, show k - i = k - 1 - i + 1 by omega]
          rw [List.drop_eq_getElem_cons (by omega)]
          congr 1
          rw [List.getElem?_eq_getElem (by omega)] at hb
          exact Option.some.inj hb
        have hle := leN_drop_le p (k - (i + 1))
        have e : leN (p.drop (k - (i + 1))) = b.toNat + 256 * leN (p.drop (k - i)) := by rw [hd]; rfl
        have hbl := b.toNat_lt
        rw [if_pos (by omega), wrap_in (n := (at_ : Int) + _) (by omega) (by omega), if_pos (by omega), show ((at_ : Int) + ((k : Int) - 1 - i)).toNat = at_ + (k - 1 - i) by omega, hget _ (by omega), hb, Option.bind_some]
        rw [wrap_in (n := (b.toNat : Int)) (by omega) (by omega), wrap_in (n := _ * 256) (by omega) (by omega), wrap_in (by omega) (by omega), wrap_in (by omega) (by omega)]
        refine .inr ⟨hn, _, rfl, ?_⟩
        rw [e]
        simp only [Prod.mk.injEq]
        omega
      · have : i = k := by omega
        subst this
        rw [if_neg (by omega)]
        simp
  unfold spec_l01GetUint spec_l01Within
  simp only [l00In_out, Option.bind_some, decide_eq_true_eq]
  rw [if_pos (by omega), if_pos (by omega), Option.bind_some, wrap_in (by omega) (by omega), if_neg (by simp; omega)]
  by_cases h8 : (k : Int) = 8
  · rw [if_pos h8, wrap_in (by omega) (by omega), if_pos (by omega)]
    obtain ⟨b, hb⟩ := get_at (l := p) (i := 7) (by omega)
    rw [show ((at_ : Int) + 7).toNat = at_ + 7 by omega, hget 7 (by omega), hb, Option.bind_some]
    have hsp : p = p.take 7 ++ [b] := by
      have h1 : p.take (7 + 1) = p.take 7 ++ [b] := by rw [List.take_add_one, hb]; rfl
      rw [List.take_of_length_le (by omega)] at h1
      exact h1
    have hv : leN p = leN (p.take 7) + 72057594037927936 * b.toNat := by
      conv => lhs; rw [hsp]
      rw [leN_append, show (p.take 7).length = 7 by simp; omega]
      simp [leN]
    have hlt := leN_lt (p.take 7)
    rw [show (p.take 7).length = 7 by simp; omega] at hlt
    have h256 : (256 : Nat) ^ 7 = 72057594037927936 := by decide
    by_cases hb7 : (b.toNat : Int) > 127
    · rw [if_pos hb7, if_neg (by omega)]
    · rw [if_neg hb7, loop (by omega), Option.bind_some, if_pos (by omega)]
  · have hlt := leN_lt p
    rw [hpl] at hlt
    have : (256 : Nat) ^ k ≤ 256 ^ 7 := Nat.pow_le_pow_right (by omega) (by omega)
    have h256 : (256 : Nat) ^ 7 = 72057594037927936 := by decide
    rw [if_neg h8, loop (by omega), Option.bind_some, if_pos (by omega)]

theorem number_out (s : Str) (bad : Bool) (k : Nat) (hk : k ≤ 8) (h : k ≤ s.length) (hs : s.length ≤ 1048576) :
    impl_decoder_number_o1a s bad k = some (s.drop k, bad, IntKind.i64.wrap (leN (s.take k) : Int)) := by
  unfold impl_decoder_number_o1a impl_decoder_take_o1a impl_cut
  rw [if_neg (by omega), within_out, Option.bind_some, wrap_in (n := (s.length : Int) - k) (by omega) (by omega), if_neg (by simp; omega)]
  rw [wrap_in (n := (0 : Int) + k) (by omega) (by omega)]
  have e1 : subL s (some 0) (some (0 + (k : Int))) = some (s.take k) := by
    unfold subL bound
    simp only
    rw [if_pos (by omega)]
    simp
  have e2 : subL s (some (k : Int)) none = some (s.drop k) := by
    unfold subL bound
    simp only
    rw [if_pos (by omega)]
    simp
  rw [e1, Option.bind_some, Option.bind_some]
  simp only [not_true_eq_false, if_false]
  rw [e2, Option.bind_some, Option.bind_some, getBits_out _ (by simp; omega), Option.bind_some]

/-- The superblock that a block is read as. -/
def rawS (b : Str) : DSuper := (IntKind.i64.wrap (leN ((b.drop 5).take 2) : Int), IntKind.i64.wrap (leN ((b.drop 7).take 2) : Int), IntKind.i64.wrap (leN ((b.drop 9).take 8) : Int), IntKind.i64.wrap (leN ((b.drop 17).take 8) : Int))
open Classical in
noncomputable def decS (b : Str) : Int × Int × Int × Int × Bool := if SuperV (rawS b) ∧ encS (rawS b) = b then ((rawS b).1, (rawS b).2.1, (rawS b).2.2.1, (rawS b).2.2.2, true) else (0, 0, 0, 0, false)

open Classical in
theorem iDecode_out (b : Str) (h : b.length = 64) : impl_DecodeSuper b = some (decS b) := by
  unfold impl_DecodeSuper impl_isBlock
  have e2 : subL b (some 5) none = some (b.drop 5) := by
    unfold subL bound
    simp only
    rw [if_pos (by omega)]
    simp
  have n1 := number_out (b.drop 5) false 2 (by omega) (by simp; omega) (by simp; omega)
  have n2 := number_out ((b.drop 5).drop 2) false 2 (by omega) (by simp; omega) (by simp; omega)
  have n3 := number_out (((b.drop 5).drop 2).drop 2) false 8 (by omega) (by simp; omega) (by simp; omega)
  have n4 := number_out ((((b.drop 5).drop 2).drop 2).drop 8) false 8 (by omega) (by simp; omega) (by simp; omega)
  rw [Option.bind_some, if_neg (by simp; omega), e2, Option.bind_some]
  rw [show impl_decoder_number_o1a (b.drop 5) false 2 = _ from n1, Option.bind_some]
  simp only
  rw [show impl_decoder_number_o1a ((b.drop 5).drop 2) false 2 = _ from n2, Option.bind_some]
  simp only
  rw [show impl_decoder_number_o1a (((b.drop 5).drop 2).drop 2) false 8 = _ from n3, Option.bind_some]
  simp only
  rw [show impl_decoder_number_o1a ((((b.drop 5).drop 2).drop 2).drop 8) false 8 = _ from n4, Option.bind_some]
  simp only [List.drop_drop]
  rw [iValidSuper_out, Option.bind_some, encode_out]
  simp only [Option.bind_some, deq]
  unfold decS
  rw [show (IntKind.i64.wrap (leN ((b.drop 5).take 2) : Int), IntKind.i64.wrap (leN ((b.drop (5 + 2)).take 2) : Int), IntKind.i64.wrap (leN ((b.drop (5 + 2 + 2)).take 8) : Int), IntKind.i64.wrap (leN ((b.drop (5 + 2 + 2 + 8)).take 8) : Int)) = rawS b from rfl]
  by_cases h1 : SuperV (rawS b)
  case neg => rw [if_pos h1, if_neg (fun q => h1 q.1)]
  rw [if_neg (by simpa using h1)]
  by_cases h2 : encS (rawS b) = b
  case neg => rw [if_pos h2, if_neg (fun q => h2 q.2)]
  rw [if_neg (by simpa using h2), if_pos ⟨h1, h2⟩]
  rfl

theorem wrap_small {n : Nat} (h : n < 9223372036854775808) : IntKind.i64.wrap (n : Int) = n := wrap_in (by omega) (by omega)
theorem wrap_big {n : Nat} (h : ¬ n < 9223372036854775808) (h' : n < 18446744073709551616) : IntKind.i64.wrap (n : Int) < 0 := by
  rw [IntKind.wrap_i64]; omega

open Classical in
theorem sDecode_out (b : Str) (h : b.length = 64) : spec_DecodeSuper b = some (decS b) := by
  unfold spec_DecodeSuper
  rw [if_neg (by omega)]
  have g1 := l01GetUint_out b 5 2 (by omega) (by omega) (by omega)
  have g2 := l01GetUint_out b 7 2 (by omega) (by omega) (by omega)
  have g3 := l01GetUint_out b 9 8 (by omega) (by omega) (by omega)
  have g4 := l01GetUint_out b 17 8 (by omega) (by omega) (by omega)
  have b1 : leN ((b.drop 5).take 2) < 65536 := by have := leN_lt ((b.drop 5).take 2); rw [show ((b.drop 5).take 2).length = 2 by simp; omega] at this; simpa using this
  have b2 : leN ((b.drop 7).take 2) < 65536 := by have := leN_lt ((b.drop 7).take 2); rw [show ((b.drop 7).take 2).length = 2 by simp; omega] at this; simpa using this
  have b3 : leN ((b.drop 9).take 8) < 18446744073709551616 := by have := leN_lt ((b.drop 9).take 8); rw [show ((b.drop 9).take 8).length = 8 by simp; omega] at this; simpa using this
  have b4 : leN ((b.drop 17).take 8) < 18446744073709551616 := by have := leN_lt ((b.drop 17).take 8); rw [show ((b.drop 17).take 8).length = 8 by simp; omega] at this; simpa using this
  rw [if_pos (by omega)] at g1 g2
  have hraw : rawS b = ((leN ((b.drop 5).take 2) : Int), (leN ((b.drop 7).take 2) : Int), IntKind.i64.wrap (leN ((b.drop 9).take 8) : Int), IntKind.i64.wrap (leN ((b.drop 17).take 8) : Int)) := by
    unfold rawS
    rw [wrap_small (n := leN ((b.drop 5).take 2)) (by omega), wrap_small (n := leN ((b.drop 7).take 2)) (by omega)]
  generalize leN ((b.drop 5).take 2) = x1 at *
  generalize leN ((b.drop 7).take 2) = x2 at *
  generalize leN ((b.drop 9).take 8) = x3 at *
  generalize leN ((b.drop 17).take 8) = x4 at *
  have G1 : spec_l01GetUint b 5 2 = some ((x1 : Int), true) := g1
  have G2 : spec_l01GetUint b 7 2 = some ((x2 : Int), true) := g2
  have G3 : spec_l01GetUint b 9 8 = some (if x3 < 9223372036854775808 then ((x3 : Int), true) else (0, false)) := g3
  have G4 : spec_l01GetUint b 17 8 = some (if x4 < 9223372036854775808 then ((x4 : Int), true) else (0, false)) := g4
  have step : ∀ (p : Int × Bool) (q : Int × Bool), spec_l01GetUint b 9 8 = some p → spec_l01GetUint b 17 8 = some q → ∃ a5 a6 a7 a8, spec_DecodeSuper_l1 (b, 0, 0, 0, 0, 0, 0, 0, 0, true, 0) = some (b, a5, a6, a7, a8, (x1 : Int), (x2 : Int), p.1, q.1, p.2 && q.2) := by
    intro p q hp hq
    refine ⟨0, 0, 0, 0, ?_⟩
    unfold spec_DecodeSuper_l1
    have k1 : IntKind.i64.wrap 1 = 1 := by decide
    have k2 : IntKind.i64.wrap 2 = 2 := by decide
    have k3 : IntKind.i64.wrap 3 = 3 := by decide
    have k4 : IntKind.i64.wrap 4 = 4 := by decide
    rw [loopO_inl (s' := (b, 0, 0, 0, 0, (x1 : Int), 0, 0, 0, true, 1)) (by simp [spec_DecodeSuper_l1_b, spec_DecodeSuper_p2, lit, G1, k1])]
    rw [loopO_inl (s' := (b, 0, 0, 0, 0, (x1 : Int), (x2 : Int), 0, 0, true, 2)) (by simp [spec_DecodeSuper_l1_b, spec_DecodeSuper_p2, lit, G2, k2])]
    rw [loopO_inl (s' := (b, 0, 0, 0, 0, (x1 : Int), (x2 : Int), p.1, 0, p.2, 3)) (by simp [spec_DecodeSuper_l1_b, spec_DecodeSuper_p2, lit, hp, k3])]
    rw [loopO_inl (s' := (b, 0, 0, 0, 0, (x1 : Int), (x2 : Int), p.1, q.1, p.2 && q.2, 4)) (by cases hp2 : p.2 <;> simp [spec_DecodeSuper_l1_b, spec_DecodeSuper_p2, lit, hq, k4])]
    rw [loopO_inr (r := (b, 0, 0, 0, 0, (x1 : Int), (x2 : Int), p.1, q.1, p.2 && q.2)) (by simp [spec_DecodeSuper_l1_b])]
  obtain ⟨a5, a6, a7, a8, hl⟩ := step _ _ G3 G4
  rw [hl, Option.bind_some]
  simp only
  unfold decS
  by_cases h3 : x3 < 9223372036854775808
  case neg =>
    rw [if_neg h3]
    simp only [Bool.false_and, Bool.false_eq_true, not_false_eq_true, if_true]
    rw [if_neg]
    rintro ⟨hv, _⟩
    rw [hraw] at hv
    have := hv.2.2.2.2.2.1
    have := wrap_big h3 b3
    simp only at *
    omega
  by_cases h4 : x4 < 9223372036854775808
  case neg =>
    rw [if_neg h4]
    simp only [Bool.and_false, Bool.false_eq_true, not_false_eq_true, if_true]
    rw [if_neg]
    rintro ⟨hv, _⟩
    rw [hraw] at hv
    have := hv.2.2.2.2.2.2.2.1
    have := wrap_big h4 b4
    simp only at *
    omega
  rw [wrap_small h3, wrap_small h4] at hraw
  rw [if_pos h3, if_pos h4]
  simp only [Bool.and_self, not_true_eq_false, if_false, sValidSuper_out, Option.bind_some, deq]
  rw [hraw]
  by_cases h1 : SuperV ((x1 : Int), (x2 : Int), (x3 : Int), (x4 : Int))
  case neg => rw [if_pos h1, if_neg (fun q => h1 q.1)]
  rw [if_neg (by simpa using h1), l10Encode_out _ h1.sin, Option.bind_some]
  by_cases h2 : encS ((x1 : Int), (x2 : Int), (x3 : Int), (x4 : Int)) = b
  case neg => rw [if_pos h2, if_neg (fun q => h2 q.2)]
  rw [if_neg (by simpa using h2), if_pos ⟨h1, h2⟩]
end Go.Proofs.TM
