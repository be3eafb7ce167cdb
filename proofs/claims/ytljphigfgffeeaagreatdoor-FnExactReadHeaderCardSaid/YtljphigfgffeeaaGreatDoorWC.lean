import Derived.Test.YtljphigfgffeeaaGreatDoorWA
import Derived.Test.YtljphigfgffeeaaGreatDoorWB
namespace Go.Proofs.TM
open Go Go.Proofs
set_option linter.unusedVariables false
set_option linter.unusedSimpArgs false
set_option maxHeartbeats 1000000
theorem loop_build {β : Type} (n : Nat) (g : Nat → β) (f : List β × Int → Option ((List β × Int) ⊕ List β))
  (h1 : ∀ i : Nat, i < n → f ((List.range i).map g, (i : Int)) = some (.inl ((List.range (i + 1)).map g, (i : Int) + 1)))
  (h2 : f ((List.range n).map g, (n : Int)) = some (.inr ((List.range n).map g))) : loopO f ([], 0) = some ((List.range n).map g) := by
 refine loop_some n (fun i s => s = ((List.range i).map g, (i : Int))) (fun i s hi hs => ?_) n 0 _ (by omega) rfl
 subst hs
 by_cases hn : i < n
 ·exact .inr ⟨hn, _, h1 i hn, by simp⟩
 ·have : i = n := by omega
  subst this; exact .inl h2
theorem loop_fill {β : Type} (n : Nat) (g : Nat → β) (f : List β × Int → Option ((List β × Int) ⊕ List β)) (m : List β) (hm : m.length = n)
  (h1 : ∀ (m : List β) (i : Nat), i < n → m.length = n → f (m, (i : Int)) = some (.inl (m.set i (g i), (i : Int) + 1)))
  (h2 : ∀ m : List β, m.length = n → f (m, (n : Int)) = some (.inr m)) : loopO f (m, 0) = some ((List.range n).map g) := by
 refine loop_some n (fun i s => s.2 = (i : Int) ∧ s.1.length = n ∧ ∀ j, j < i → s.1[j]? = some (g j)) (fun i s hi hs => ?_) n 0 _ (by omega) ⟨rfl, hm, fun j hj => by omega⟩
 obtain ⟨m, k⟩ := s
 obtain ⟨rfl, hml, hall⟩ := hs
 simp only at hml hall ⊢
 by_cases hn : i < n
 ·refine .inr ⟨hn, _, h1 m i hn hml, by simp, by simp [hml], fun j hj => ?_⟩
  by_cases hji : j = i
  ·subst hji; simp only; rw [List.getElem?_set_self (by omega)]
  ·simp only; rw [List.getElem?_set_ne (by omega)]; exact hall j (by omega)
 ·have : i = n := by omega
  subst this
  refine .inl ?_
  rw [h2 m hml]
  congr 2
  apply List.ext_getElem?
  intro j
  by_cases hj : j < i
  ·rw [hall j hj]; simp [hj]
  ·rw [List.getElem?_eq_none (by omega), List.getElem?_eq_none (by simp; omega)]
theorem u8_wrap_eq (y : Int) : IntKind.u8.wrap y = y % 256 := by simp [IntKind.wrap, IntKind.bits, IntKind.signed]
theorem u64_wrap_in {y : Int} (h : 0 ≤ y) (h' : y < 18446744073709551616) : IntKind.u64.wrap y = y := by simp [IntKind.wrap, IntKind.bits, IntKind.signed]; omega
theorem and255 (y : Int) (h : -9223372036854775808 ≤ y) (h' : y ≤ 9223372036854775807) : bitV .and .i64 y 255 = y % 256 := by
 have e : ((BitVec.ofInt 64 y &&& BitVec.ofInt 64 255).toNat : Int) = y % 256 := by
  rw [BitVec.toNat_and, BitVec.toNat_ofInt, BitVec.toNat_ofInt]
  have : ((255 : Int) % ((2 ^ 64 : Nat) : Int)).toNat = 2 ^ 8 - 1 := by decide
  rw [this, Nat.and_two_pow_sub_one_eq_mod]
  omega
 show (bitsI .and .i64 y 255).getD 0 = _
 show IntKind.i64.wrap ((BitVec.ofInt 64 y &&& BitVec.ofInt 64 255).toNat : Int) = _
 rw [e]
 exact wrap_in (by omega) (by omega)
def byB (n : Int) (j : Nat) : Bt := ⟨UInt8.ofNat ((shrV .i64 n (8 * (j : Int))) % 256).toNat⟩
def leB (n : Int) (k : Nat) : Str := (List.range k).map fun j => (byB n j).v
@[simp] theorem leB_length (n : Int) (k : Nat) : (leB n k).length = k := by simp [leB]
theorem leB_map (n : Int) (k : Nat) : ((List.range k).map (byB n)).map Bt.v = leB n k := by simp [leB, Function.comp_def]
theorem shr_in {n : Int} (c : Int) (h : -9223372036854775808 ≤ n) (h' : n ≤ 9223372036854775807) : -9223372036854775808 ≤ shrV .i64 n c ∧ shrV .i64 n c ≤ 9223372036854775807 := by
 unfold shrV
 rw [Int.fdiv_eq_ediv_of_nonneg _ (by exact Int.pow_nonneg (by omega))]
 have hp : (0 : Int) < 2 ^ (min c.toNat (IntKind.bits .i64)) := Int.pow_pos (by omega)
 generalize (2 : Int) ^ (min c.toNat (IntKind.bits .i64)) = p at hp
 constructor
 ·rcases Int.lt_or_le n 0 with h0 | h0
  ·exact Int.le_ediv_of_mul_le hp (by omega)
  ·exact Int.le_trans (by omega) (Int.ediv_nonneg h0 (by omega))
 ·rcases Int.lt_or_le n 0 with h0 | h0
  ·have := Int.ediv_neg_of_neg_of_pos h0 hp
   omega
  ·exact Int.le_trans (Int.ediv_le_self _ h0) h'
end Go.Proofs.TM
namespace Go.Proofs.TM
open Go Go.Proofs
set_option linter.unusedVariables false
set_option linter.unusedSimpArgs false
set_option maxHeartbeats 1000000
theorem loopO_inl {σ ρ : Type} {f : σ → Option (σ ⊕ ρ)} {s s' : σ} (h : f s = some (.inl s')) : loopO f s = loopO f s' := by rw [loopO_unfold, h]; rfl
theorem loopO_inr {σ ρ : Type} {f : σ → Option (σ ⊕ ρ)} {s : σ} {r : ρ} (h : f s = some (.inr r)) : loopO f s = some r := by rw [loopO_unfold, h]; rfl
def leN : Str → Nat
 | [] => 0
 | b :: s => b.toNat + 256 * leN s
theorem leN_lt : ∀ s : Str, leN s < 256 ^ s.length
 | [] => by simp [leN]
 | b :: s => by
  have := leN_lt s
  have hb : b.toNat < 256 := b.toNat_lt
  simp only [leN, List.length_cons, Nat.pow_succ]
  omega
theorem leN_append : ∀ (s t : Str), leN (s ++ t) = leN s + 256 ^ s.length * leN t
 | [], t => by simp [leN]
 | b :: s, t => by
  simp only [List.cons_append, leN, leN_append s t, List.length_cons, Nat.pow_succ, Nat.mul_add]
  rw [show 256 ^ s.length * 256 * leN t = 256 * (256 ^ s.length * leN t) by rw [Nat.mul_comm (256 ^ s.length) 256, Nat.mul_assoc]]
  omega
theorem leN_drop_le (s : Str) (j : Nat) : leN (s.drop j) ≤ leN s := by
 induction s generalizing j with
 | nil => simp
 | cons b s ih =>
  cases j with
  | zero => simp
  | succ j =>
   have := ih j
   simp only [List.drop_succ_cons, leN]; omega
theorem pow256 (i : Nat) : (2 : Int) ^ (8 * i) = ((256 ^ i : Nat) : Int) := by
 rw [Int.pow_mul]; simp
theorem p256_lt {i : Nat} (h : i < 8) : 256 * 256 ^ i ≤ 18446744073709551616 := by
 have : 256 ^ i ≤ 256 ^ 7 := Nat.pow_le_pow_right (by omega) (by omega)
 have : (256 : Nat) ^ 7 = 72057594037927936 := by decide
 omega
theorem or_u64 (x b i : Nat) (hx : x < 256 ^ i) (hb : b < 256) (hi : i < 8) : bitV .or .u64 (x : Int) (shlV .u64 (b : Int) (8 * (i : Int))) = ((x + 256 ^ i * b : Nat) : Int) := by
 have hp := p256_lt hi
 have hbm : 256 ^ i * b ≤ 256 ^ i * 255 := Nat.mul_le_mul_left _ (by omega)
 have e1 : shlV .u64 (b : Int) (8 * (i : Int)) = ((256 ^ i * b : Nat) : Int) := by
  unfold shlV
  rw [show min (8 * (i : Int)).toNat (IntKind.bits .u64) = 8 * i by show min (8 * (i : Int)).toNat 64 = _; omega, pow256]
  rw [← Int.natCast_mul, Nat.mul_comm]
  exact u64_wrap_in (by omega) (by omega)
 rw [e1]
 show IntKind.u64.wrap ((BitVec.ofInt 64 (x : Int) ||| BitVec.ofInt 64 ((256 ^ i * b : Nat) : Int)).toNat : Int) = _
 have e2 : (BitVec.ofInt 64 (x : Int) ||| BitVec.ofInt 64 ((256 ^ i * b : Nat) : Int)).toNat = x + 256 ^ i * b := by
  rw [BitVec.toNat_or, BitVec.toNat_ofInt, BitVec.toNat_ofInt]
  rw [show (((x : Nat) : Int) % ((2 ^ 64 : Nat) : Int)).toNat = x by omega, show (((256 ^ i * b : Nat) : Int) % ((2 ^ 64 : Nat) : Int)).toNat = 256 ^ i * b by omega]
  have h2 : (256 : Nat) ^ i = 2 ^ (8 * i) := by rw [Nat.pow_mul]
  rw [h2] at hx ⊢
  rw [Nat.or_comm, ← Nat.two_pow_add_eq_or_of_lt hx]
  omega
 rw [e2]
 exact u64_wrap_in (by omega) (by omega)
theorem getBits_out (s : Str) (h : s.length ≤ 8) : impl_getBits s = some (leN s : Int) := by
 unfold impl_getBits impl_getBits_l1
 rw [loop_some (f := fun t => impl_getBits_l1_b s s.length t.1 t.2) (r := (leN s : Int)) s.length (fun i t => t = ((leN (s.take i) : Int), (i : Int))) (fun i t hi ht => ?_) s.length 0 _ (by omega) (by simp [leN])]
 ·rfl
 ·subst ht
  simp only [impl_getBits_l1_b]
  by_cases hn : i < s.length
  ·obtain ⟨b, hb⟩ := get_at hn
   rw [if_pos (by omega), if_pos (by omega), Int.toNat_natCast, hb, Option.bind_some, wrap_in (n := 8 * (i : Int)) (by omega) (by omega), if_neg (by omega), u64_wrap_in (by omega) (by have := b.toNat_lt; omega)]
   refine .inr ⟨hn, _, rfl, ?_⟩
   have ht : s.take (i + 1) = s.take i ++ [b] := by rw [List.take_add_one, hb]; rfl
   have hl : (s.take i).length = i := by simp; omega
   have hlt := leN_lt (s.take i)
   rw [hl] at hlt
   rw [or_u64 _ _ _ hlt b.toNat_lt (by omega), ht, leN_append, hl, w1 (by omega)]
   simp [leN]
  ·have : i = s.length := by omega
   subst this
   rw [if_neg (by omega), List.take_length]
   exact .inl rfl
theorem l01GetUint_out (s : Str) (at_ k : Nat) (hk : 1 ≤ k ∧ k ≤ 8) (h : at_ + k ≤ s.length) (hs : s.length ≤ 1048576) :
  spec_l01GetUint s at_ k = some (if leN ((s.drop at_).take k) < 9223372036854775808 then ((leN ((s.drop at_).take k) : Int), true) else (0, false)) := by
 have hpl : ((s.drop at_).take k).length = k := by simp; omega
 have hget : ∀ j, j < k → s[at_ + j]? = ((s.drop at_).take k)[j]? := fun j hj => by rw [List.getElem?_take, if_pos hj, List.getElem?_drop]
 generalize hp : (s.drop at_).take k = p at hpl hget
 have loop : leN p < 9223372036854775808 → spec_l01GetUint_p1 s at_ k = some ((leN p : Int), true) := fun hlt => by
  unfold spec_l01GetUint_p1 spec_l01GetUint_l2
  rw [wrap_in (by omega) (by omega)]
  rw [loop_some (f := fun t => spec_l01GetUint_l2_b s at_ t.1 t.2) (r := (leN p : Int)) k (fun i t => t = ((leN (p.drop (k - i)) : Int), (k : Int) - 1 - i)) (fun i t hi ht => ?_) k 0 _ (by omega) (by rw [List.drop_of_length_le (by omega)]; simp [leN])]
  ·rfl
  ·subst ht
   simp only [spec_l01GetUint_l2_b]
   by_cases hn : i < k
   ·obtain ⟨b, hb⟩ := get_at (l := p) (i := k - 1 - i) (by omega)
    have hd : p.drop (k - (i + 1)) = b :: p.drop (k - i) := by
     rw [show k - (i + 1) = k - 1 - i by omega, show k - i = k - 1 - i + 1 by omega]
     rw [List.drop_eq_getElem_cons (by omega)]
     congr 1
     rw [List.getElem?_eq_getElem (by omega)] at hb
     exact Option.some.inj hb
    have hle := leN_drop_le p (k - (i + 1))
    have e : leN (p.drop (k - (i + 1))) = b.toNat + 256 * leN (p.drop (k - i)) := by rw [hd]; rfl
    have hbl := b.toNat_lt
    rw [if_pos (by omega), wrap_in (n := (at_ : Int) + _) (by omega) (by omega), if_pos (by omega), show ((at_ : Int) + ((k : Int) - 1 - i)).toNat = at_ + (k - 1 - i) by omega, hget _ (by omega), hb, Option.bind_some]
    rw [wrap_in (n := (b.toNat : Int)) (by omega) (by omega), wrap_in (n := _ * 256) (by omega) (by omega), wrap_in (by omega) (by omega), wrap_in (by omega) (by omega)]
    refine .inr ⟨hn, _, rfl, ?_⟩
    rw [e]
    simp only [Prod.mk.injEq]
    omega
   ·have : i = k := by omega
    subst this
    rw [if_neg (by omega)]
    simp
 unfold spec_l01GetUint spec_l01Within
 simp only [l00In_out, Option.bind_some, decide_eq_true_eq]
 rw [if_pos (by omega), if_pos (by omega), Option.bind_some, wrap_in (by omega) (by omega), if_neg (by simp; omega)]
 by_cases h8 : (k : Int) = 8
 ·rw [if_pos h8, wrap_in (by omega) (by omega), if_pos (by omega)]
  obtain ⟨b, hb⟩ := get_at (l := p) (i := 7) (by omega)
  rw [show ((at_ : Int) + 7).toNat = at_ + 7 by omega, hget 7 (by omega), hb, Option.bind_some]
  have hsp : p = p.take 7 ++ [b] := by
   have h1 : p.take (7 + 1) = p.take 7 ++ [b] := by rw [List.take_add_one, hb]; rfl
   rw [List.take_of_length_le (by omega)] at h1
   exact h1
  have hv : leN p = leN (p.take 7) + 72057594037927936 * b.toNat := by
   conv => lhs; rw [hsp]
   rw [leN_append, show (p.take 7).length = 7 by simp; omega]
   simp [leN]
  have hlt := leN_lt (p.take 7)
  rw [show (p.take 7).length = 7 by simp; omega] at hlt
  have h256 : (256 : Nat) ^ 7 = 72057594037927936 := by decide
  by_cases hb7 : (b.toNat : Int) > 127
  ·rw [if_pos hb7, if_neg (by omega)]
  ·rw [if_neg hb7, loop (by omega), Option.bind_some, if_pos (by omega)]
 ·have hlt := leN_lt p
  rw [hpl] at hlt
  have : (256 : Nat) ^ k ≤ 256 ^ 7 := Nat.pow_le_pow_right (by omega) (by omega)
  have h256 : (256 : Nat) ^ 7 = 72057594037927936 := by decide
  rw [if_neg h8, loop (by omega), Option.bind_some, if_pos (by omega)]
end Go.Proofs.TM
namespace Go.Proofs.TM
open Go Go.Proofs
set_option linter.unusedVariables false
set_option linter.unusedSimpArgs false
set_option maxHeartbeats 1000000
abbrev DMsg := Int × Int × Str
abbrev DHdr := Int × Int × List DMsg
def MsgV (m : DMsg) : Prop := (1 ≤ m.1 ∧ m.1 ≤ 9) ∧ (0 ≤ m.2.1 ∧ m.2.1 ≤ 255) ∧ (m.2.2.length : Int) ≤ 200
def HdrV (h : DHdr) : Prop := (1 ≤ h.1 ∧ h.1 ≤ 3) ∧ (0 ≤ h.2.1 ∧ h.2.1 ≤ 1000) ∧ (h.2.2.length : Int) ≤ 24 ∧ ∀ m ∈ h.2.2, MsgV m
end Go.Proofs.TM
namespace Go.Proofs.TM
open Go Go.Proofs
set_option linter.unusedVariables false
set_option linter.unusedSimpArgs false
set_option maxHeartbeats 1000000
open Classical in
theorem l14Ok_out (h : DHdr) : spec_l14Ok h = some (decide (HdrV h)) := by
 unfold spec_l14Ok
 simp only [l00In_out, Option.bind_some, deq]
 by_cases h1 : 1 ≤ h.1 ∧ h.1 ≤ 3
 case neg => rw [if_pos h1]; exact dF fun q => h1 q.1
 rw [if_neg (by simpa using h1)]
 by_cases h2 : 0 ≤ h.2.1 ∧ h.2.1 ≤ 1000
 case neg => rw [if_pos h2]; exact dF fun q => h2 q.2.1
 rw [if_neg (by simpa using h2)]
 by_cases h3 : (h.2.2.length : Int) > 24
 ·rw [if_pos h3]; exact dF fun q => by have := q.2.2.1; omega
 rw [if_neg h3]
 unfold spec_l14Ok_l1
 rw [loop_mem h.2.2 MsgV (fun s => spec_l14Ok_l1_b h s) (.inl ()) (.inr false) (fun i x hi hx hp => by
   obtain ⟨a, b, c⟩ := hp
   simp only [spec_l14Ok_l1_b, Int.ofNat_lt.2 hi, Int.natCast_nonneg, Int.toNat_natCast, hx, if_true, Option.bind_some, l00In_out, deq]
   rw [if_neg (by simpa using a), if_neg (by simpa using b), if_neg (by omega), w1 (by omega)]) (fun i x hi hx hp => by
   simp only [spec_l14Ok_l1_b, Int.ofNat_lt.2 hi, Int.natCast_nonneg, Int.toNat_natCast, hx, if_true, Option.bind_some, l00In_out, deq]
   by_cases a : 1 ≤ x.1 ∧ x.1 ≤ 9
   case neg => rw [if_pos a]
   rw [if_neg (by simpa using a)]
   by_cases b : 0 ≤ x.2.1 ∧ x.2.1 ≤ 255
   case neg => rw [if_pos b]
   rw [if_neg (by simpa using b)]
   by_cases c : (x.2.2.length : Int) > 200
   ·rw [if_pos c]
   ·exact absurd ⟨a, b, by omega⟩ hp) (by simp [spec_l14Ok_l1_b])]
 by_cases h4 : ∀ x ∈ h.2.2, MsgV x
 ·rw [if_pos h4]; exact dT ⟨h1, h2, by omega, h4⟩
 ·rw [if_neg h4]; exact dF fun q => h4 q.2.2.2
open Classical in
theorem ValidHeader_out (h : DHdr) : impl_ValidHeader h = some (decide (HdrV h)) := by
 unfold impl_ValidHeader
 simp only [within_out, Option.bind_some, deq]
 by_cases h1 : 1 ≤ h.1 ∧ h.1 ≤ 3
 case neg => rw [if_neg h1]; exact dF fun q => h1 q.1
 rw [if_pos h1]
 by_cases h2 : 0 ≤ h.2.1 ∧ h.2.1 ≤ 1000
 case neg => rw [if_neg h2]; exact dF fun q => h2 q.2.1
 rw [if_pos h2]
 by_cases h3 : (h.2.2.length : Int) ≤ 24
 case neg => rw [if_neg h3]; exact dF fun q => h3 q.2.2.1
 rw [if_pos h3]
 have hm : ∀ x : DMsg, impl_ValidHeader_c1 x = some (!decide (MsgV x)) := fun x => by
  unfold impl_ValidHeader_c1 impl_messageOk
  simp only [within_out, Option.bind_some, deq]
  by_cases a : 1 ≤ x.1 ∧ x.1 ≤ 9
  case neg => rw [if_neg a]; simp [MsgV, a]
  rw [if_pos a]
  by_cases b : 0 ≤ x.2.1 ∧ x.2.1 ≤ 255
  case neg => rw [if_neg b]; simp [MsgV, b]
  rw [if_pos b]
  simp [MsgV, a, b]
 unfold slices_ContainsFunc_impl_Message_impl_Message__ValidHeader_c1 slices_IndexFunc_impl_Message_impl_Message__ValidHeader_c1 slices_IndexFunc_impl_Message_impl_Message__ValidHeader_c1_l1
 obtain ⟨r, hr, hx⟩ := loop_find h.2.2 MsgV (fun t => slices_IndexFunc_impl_Message_impl_Message__ValidHeader_c1_l1_b h.2.2 h.2.2.length t) () (fun i x hi hx hp => by
   have hx' := (List.getElem?_eq_some_iff.1 hx).2
   simp [slices_IndexFunc_impl_Message_impl_Message__ValidHeader_c1_l1_b, hm, hi, hx', hp, w1 (show i < 9223372036854775807 by omega)]) (fun i x hi hx hp => by
   have hx' := (List.getElem?_eq_some_iff.1 hx).2
   simp [slices_IndexFunc_impl_Message_impl_Message__ValidHeader_c1_l1_b, hm, hi, hx', hp]) (by simp [slices_IndexFunc_impl_Message_impl_Message__ValidHeader_c1_l1_b])
 rw [hr]
 rcases hx with ⟨rfl, h5⟩ | ⟨k, rfl, hk, h5⟩
 ·simp [HdrV, h1, h2, h3]; exact fun a b c hm => h5 _ hm
 ·simp [HdrV, h1, h2, h3, hk]
  by_cases hall : ∀ m ∈ h.2.2, MsgV m
  ·exact absurd hall h5
  ·simpa using hall
end Go.Proofs.TM
namespace Go.Proofs.TM
open Go Go.Proofs
set_option linter.unusedVariables false
set_option linter.unusedSimpArgs false
set_option maxHeartbeats 1000000
theorem loop_rel {σ τ ρ π : Type} {f : σ → Option (σ ⊕ ρ)} {g : τ → Option (τ ⊕ π)} (Q : ρ → π → Prop) (m : σ → Nat) (I : σ → τ → Prop)
  (h : ∀ s t, I s t → (∃ r q, f s = some (.inr r) ∧ loopO g t = some q ∧ Q r q) ∨ ∃ s' t', f s = some (.inl s') ∧ g t = some (.inl t') ∧ I s' t' ∧ m s' < m s) :
  ∀ k s t, m s = k → I s t → ∃ r q, loopO f s = some r ∧ loopO g t = some q ∧ Q r q := by
 intro k
 induction k using Nat.strongRecOn with
 | _ k ih =>
  intro s t hk hI
  rcases h s t hI with ⟨r, q, h1, h2, h3⟩ | ⟨s', t', h1, h2, h3, h4⟩
  ·exact ⟨r, q, loopO_inr h1, h2, h3⟩
  ·rw [loopO_inl h1, loopO_inl h2]
   exact ih (m s') (by omega) s' t' rfl h3
abbrev RdD := Str × Bool
def rdT (r : RdD) (n : Nat) : RdD × Str := if n ≤ r.1.length then ((r.1.drop n, r.2), r.1.take n) else ((r.1, true), [])
def rdN (r : RdD) (n : Nat) : RdD × Int := ((rdT r n).1, (leN (rdT r n).2 : Int))
theorem rdT_len (r : RdD) (n : Nat) : (rdT r n).1.1.length ≤ r.1.length ∧ (rdT r n).2.length ≤ n ∧ (r.2 = true → (rdT r n).1.2 = true) := by
 unfold rdT
 split
 ·exact ⟨by simp, by simp; omega, fun h => h⟩
 ·exact ⟨Nat.le_refl _, by simp, fun _ => rfl⟩
theorem rdN_in (r : RdD) (n : Nat) (h : n ≤ 2) : 0 ≤ (rdN r n).2 ∧ (rdN r n).2 ≤ 65535 := by
 have h1 := leN_lt (rdT r n).2
 have h2 := (rdT_len r n).2.1
 have : 256 ^ (rdT r n).2.length ≤ 256 ^ 2 := Nat.pow_le_pow_right (by omega) (by omega)
 unfold rdN
 simp only
 omega
theorem rdB_in (r : RdD) : 0 ≤ (rdN r 1).2 ∧ (rdN r 1).2 ≤ 255 := by
 have h1 := leN_lt (rdT r 1).2
 have h2 := (rdT_len r 1).2.1
 have : 256 ^ (rdT r 1).2.length ≤ 256 ^ 1 := Nat.pow_le_pow_right (by omega) (by omega)
 unfold rdN
 simp only
 omega
theorem iTake_out (r : RdD) (n : Nat) (hn : n ≤ 1048576) (hs : r.1.length ≤ 1048576) : impl_decoder_take_o1a r n = some (rdT r n) := by
 obtain ⟨s, b⟩ := r
 simp only at hs
 unfold impl_decoder_take_o1a impl_cut rdT
 rw [if_neg (by omega), within_out, Option.bind_some, wrap_in (n := (s.length : Int) - n) (by omega) (by omega)]
 by_cases h : n ≤ s.length
 ·rw [if_neg (by simp; omega), wrap_in (n := (0 : Int) + n) (by omega) (by omega), if_pos h]
  have e1 : subL s (some 0) (some (0 + (n : Int))) = some (s.take n) := by
   have := subL_mid s 0 n (by omega) h
   simpa using this
  rw [e1, Option.bind_some, Option.bind_some]
  simp only [not_true_eq_false, if_false]
  rw [subL_from s n h]; rfl
 ·rw [if_pos (by simp; omega), if_neg h]; rfl
theorem iNum_out (r : RdD) (n : Nat) (hn : n ≤ 7) (hs : r.1.length ≤ 1048576) : impl_decoder_number_o1a r n = some (rdN r n) := by
 have h1 := leN_lt (rdT r n).2
 have h2 := (rdT_len r n).2.1
 have : 256 ^ (rdT r n).2.length ≤ 256 ^ 7 := Nat.pow_le_pow_right (by omega) (by omega)
 unfold impl_decoder_number_o1a rdN
 rw [iTake_out r n (by omega) hs, Option.bind_some, getBits_out _ (by omega), Option.bind_some, wrap_in (by omega) (by omega)]
theorem iByte_out (r : RdD) (hs : r.1.length ≤ 1048576) : impl_decoder_byte_od0 r = some (rdN r 1) := by
 unfold impl_decoder_byte_od0
 rw [show impl_decoder_number_o1a r 1 = some (rdN r 1) from iNum_out r 1 (by omega) hs]; rfl
abbrev Rs := Str × Int × Bool
def RsOk (x : Rs) (s : Str) (r : RdD) : Prop := ∃ a : Nat, x = (s, (a : Int), r.2) ∧ a ≤ s.length ∧ r.1 = s.drop a
theorem RsOk.start (s : Str) : RsOk (s, 0, false) s (s, false) := ⟨0, rfl, by omega, rfl⟩
theorem RsOk.bad {x : Rs} {s : Str} {r : RdD} (h : RsOk x s r) : x.2.2 = r.2 := by obtain ⟨a, rfl, _⟩ := h; rfl
theorem RsOk.all {x : Rs} {s : Str} {r : RdD} (h : RsOk x s r) : x.1 = s := by obtain ⟨a, rfl, _⟩ := h; rfl
theorem RsOk.len {x : Rs} {s : Str} {r : RdD} (h : RsOk x s r) : r.1.length ≤ s.length := by obtain ⟨a, _, _, h3⟩ := h; rw [h3]; simp
theorem RsOk.end {x : Rs} {s : Str} {r : RdD} (h : RsOk x s r) : x.2.1 = (s.length : Int) ↔ r.1 = [] := by
 obtain ⟨a, rfl, h2, h3⟩ := h
 rw [h3, List.drop_eq_nil_iff]
 simp only
 omega
theorem sByte_out {x : Rs} {s : Str} {r : RdD} (h : RsOk x s r) (hs : s.length ≤ 1048576) : ∃ y, spec_l02Reader_byte_o2b x = some (y, (rdN r 1).2) ∧ RsOk y s (rdN r 1).1 := by
 obtain ⟨a, rfl, h2, h3⟩ := h
 obtain ⟨q, b⟩ := r
 simp only at h3 ⊢
 subst h3
 unfold spec_l02Reader_byte_o2b rdN rdT
 simp only
 by_cases hc : a < s.length
 ·obtain ⟨c, hx⟩ := get_at hc
  rw [if_neg (by omega), wrap_in (n := (a : Int) + 1) (by omega) (by omega), wrap_in (n := (a : Int) + 1 - 1) (by omega) (by omega), if_pos (by omega), show ((a : Int) + 1 - 1).toNat = a by omega, hx, Option.bind_some, if_pos (by simp; omega)]
  have ht : (s.drop a).take 1 = [c] := by
   rw [List.drop_eq_getElem_cons hc]
   rw [List.getElem?_eq_getElem hc] at hx
   simp [Option.some.inj hx]
  rw [wrap_in (by omega) (by have := c.toNat_lt; omega), ht]
  refine ⟨_, by simp [leN], a + 1, rfl, by omega, by simp [List.drop_drop]⟩
 ·have : a = s.length := by omega
  subst this
  rw [if_pos (by omega), if_neg (by simp)]
  exact ⟨_, rfl, s.length, rfl, by omega, rfl⟩
theorem sTake_out {x : Rs} {s : Str} {r : RdD} (h : RsOk x s r) (n : Nat) (hn : n ≤ 1048576) (hs : s.length ≤ 1048576) : ∃ y, spec_l02Reader_take_oa0 x n = some (y, (rdT r n).2) ∧ RsOk y s (rdT r n).1 := by
 obtain ⟨a, rfl, h2, h3⟩ := h
 obtain ⟨q, b⟩ := r
 simp only at h3 ⊢
 subst h3
 unfold spec_l02Reader_take_oa0 rdT
 simp only
 rw [if_neg (by omega), wrap_in (n := (s.length : Int) - a) (by omega) (by omega)]
 by_cases hc : n ≤ (s.drop a).length
 ·have hc' : n + a ≤ s.length := by simp at hc; omega
  rw [if_neg (by omega), wrap_in (n := (a : Int) + n) (by omega) (by omega), wrap_in (n := (a : Int) + n - n) (by omega) (by omega), if_pos hc, show (a : Int) + n - n = ((a : Nat) : Int) by omega, show (a : Int) + n = ((a + n : Nat) : Int) by omega, subL_mid s a (a + n) (by omega) (by omega), Option.bind_some]
  refine ⟨_, ?_, a + n, rfl, by omega, by simp [List.drop_drop]⟩
  congr 2
  rw [List.drop_take, show a + n - a = n by omega]
 ·have hc' : ¬ n + a ≤ s.length := by simp at hc; omega
  rw [if_pos (by omega), if_neg hc]
  exact ⟨_, rfl, a, rfl, by omega, rfl⟩
end Go.Proofs.TM
namespace Go.Proofs.TM
open Go Go.Proofs
set_option linter.unusedVariables false
set_option linter.unusedSimpArgs false
set_option maxHeartbeats 1000000
theorem app32 (l : List DMsg) (x : DMsg) (h : l.length ≤ 100000) : appL 32 l (lit [x]) = some (l ++ [x]) := by unfold appL lit; rw [if_pos (by simp [maxRow]; omega)]
theorem dec_loop (s : Str) (hs : s.length ≤ 1048576) (k f : Int) (n : Nat) (hn : n ≤ 255) (x : Rs) (r : RdD) (h : RsOk x s r) :
  ∃ a q, spec_DecodeHeader_l1 s 0 0 (x, (k, f, ([] : List DMsg)), (n : Int)) = some a ∧ impl_DecodeHeader_l1 0 0 (r, (k, f, ([] : List DMsg)), (n : Int)) = some q ∧
   ∃ y r' l, a = (s, 0, 0, y, (k, f, l)) ∧ q = (0, 0, r', (k, f, l)) ∧ RsOk y s r' ∧ (r.2 = true → r'.2 = true) := by
 unfold spec_DecodeHeader_l1 impl_DecodeHeader_l1
 refine loop_rel (f := fun t => spec_DecodeHeader_l1_b s 0 0 t.1 t.2.1 t.2.2) (g := fun t => impl_DecodeHeader_l1_b 0 0 t.1 t.2.1 t.2.2) (fun a q => ∃ y r' l, a = (s, 0, 0, y, (k, f, l)) ∧ q = (0, 0, r', (k, f, l)) ∧ RsOk y s r' ∧ (r.2 = true → r'.2 = true))
  (fun a => a.2.2.toNat) (fun a q => ∃ y r' l, ∃ i : Nat, a = (y, (k, f, l), (i : Int)) ∧ q = (r', (k, f, l), (i : Int)) ∧ RsOk y s r' ∧ l.length + i ≤ 255 ∧ (r.2 = true → r'.2 = true)) (fun a q hI => ?_) n _ _ (by simp) ⟨x, r, [], n, rfl, rfl, h, by simp; omega, fun h => h⟩
 obtain ⟨y, r', l, i, rfl, rfl, hr, hl, hb⟩ := hI
 have hlen := hr.len
 by_cases hi : (i : Int) > 0
 ·by_cases hbad : r'.2 = true
  ·refine .inl ⟨(s, 0, 0, y, (k, f, l)), (0, 0, r', (k, f, l)), ?_, loopO_inr ?_, y, r', l, rfl, rfl, hr, hb⟩
   ·simp only [spec_DecodeHeader_l1_b, hi, if_true, hr.bad, hbad, not_true_eq_false, if_false]
   ·simp only [impl_DecodeHeader_l1_b, hi, if_true, hbad, not_true_eq_false, if_false]
  ·have hbf : r'.2 = false := by simpa using hbad
   obtain ⟨y1, a1, b1⟩ := sByte_out hr hs
   obtain ⟨y2, a2, b2⟩ := sByte_out b1 hs
   obtain ⟨y3, a3, b3⟩ := sByte_out b2 hs
   have hin := rdB_in (rdN (rdN r' 1).1 1).1
   obtain ⟨m, hm⟩ : ∃ m : Nat, (rdN (rdN (rdN r' 1).1 1).1 1).2 = (m : Int) := ⟨(rdN (rdN (rdN r' 1).1 1).1 1).2.toNat, by omega⟩
   obtain ⟨y4, a4, b4⟩ := sTake_out b3 m (by omega) hs
   have e1 := iByte_out r' (by omega)
   have e2 := iByte_out (rdN r' 1).1 (by have := b1.len; omega)
   have e3 := iByte_out (rdN (rdN r' 1).1 1).1 (by have := b2.len; omega)
   have e4 := iTake_out (rdN (rdN (rdN r' 1).1 1).1 1).1 m (by omega) (by have := b3.len; omega)
   refine .inr ⟨(y4, (k, f, l ++ [((rdN r' 1).2, (rdN (rdN r' 1).1 1).2, (rdT (rdN (rdN (rdN r' 1).1 1).1 1).1 m).2)]), ((i - 1 : Nat) : Int)), ((rdT (rdN (rdN (rdN r' 1).1 1).1 1).1 m).1, (k, f, l ++ [((rdN r' 1).2, (rdN (rdN r' 1).1 1).2, (rdT (rdN (rdN (rdN r' 1).1 1).1 1).1 m).2)]), ((i - 1 : Nat) : Int)), ?_, ?_, ⟨y4, _, _, i - 1, rfl, rfl, b4, by simp; omega, fun hh => absurd (hb hh) hbad⟩, by simp only; omega⟩
   ·simp only [spec_DecodeHeader_l1_b, hi, if_true, hr.bad, hbf, Bool.false_eq_true, not_false_eq_true, a1, Option.bind_some, a2, a3, hm, a4]
    rw [app32 _ _ (by omega), Option.bind_some, wrap_in (by omega) (by omega), show (i : Int) - 1 = ((i - 1 : Nat) : Int) by omega]
   ·simp only [impl_DecodeHeader_l1_b, hi, if_true, hbf, Bool.false_eq_true, not_false_eq_true, e1, Option.bind_some, e2, e3, hm, e4]
    rw [app32 _ _ (by omega), Option.bind_some, wrap_in (by omega) (by omega), show (i : Int) - 1 = ((i - 1 : Nat) : Int) by omega]
 ·refine .inl ⟨(s, 0, 0, y, (k, f, l)), (0, 0, r', (k, f, l)), ?_, loopO_inr ?_, y, r', l, rfl, rfl, hr, hb⟩
  ·simp only [spec_DecodeHeader_l1_b, hi, if_false]
  ·simp only [impl_DecodeHeader_l1_b, hi, if_false]
def noHdr : DHdr := (0, 0, [])
open Classical in
theorem decode_full (c0 c1 c2 c3 : UInt8) (t : Str) (hs : (c0 :: c1 :: c2 :: c3 :: t).length ≤ 1048576) : ∃ o, spec_DecodeHeader (c0 :: c1 :: c2 :: c3 :: t) = some o ∧ impl_DecodeHeader (c0 :: c1 :: c2 :: c3 :: t) = some o ∧ (o.2 = true → HdrV o.1) ∧ (o.2 = false → o.1 = noHdr) := by
 have r1 : (rdN (c0 :: c1 :: c2 :: c3 :: t, false) 1) = ((c1 :: c2 :: c3 :: t, false), (c0.toNat : Int)) := by simp [rdN, rdT, leN]
 have r2 : (rdN (c1 :: c2 :: c3 :: t, false) 1) = ((c2 :: c3 :: t, false), (c1.toNat : Int)) := by simp [rdN, rdT, leN]
 have r3 : (rdN (c2 :: c3 :: t, false) 1) = ((c3 :: t, false), (c2.toNat : Int)) := by simp [rdN, rdT, leN]
 have r4 : (rdN (c3 :: t, false) 1) = ((t, false), (c3.toNat : Int)) := by simp [rdN, rdT, leN]
 have r5 : (rdN (c1 :: c2 :: c3 :: t, false) 2) = ((c3 :: t, false), ((c1.toNat : Int) + 256 * (c2.toNat : Int))) := by simp [rdN, rdT, leN]
 have hl : (c0 :: c1 :: c2 :: c3 :: t).length = t.length + 4 := by simp
 have e1 := iByte_out (c0 :: c1 :: c2 :: c3 :: t, false) hs
 have e2 := iNum_out (c1 :: c2 :: c3 :: t, false) 2 (by omega) (by simp; omega)
 have e3 := iByte_out (c3 :: t, false) (by simp; omega)
 have h0 := RsOk.start (c0 :: c1 :: c2 :: c3 :: t)
 generalize hsd : c0 :: c1 :: c2 :: c3 :: t = s at *
 obtain ⟨y1, a1, b1⟩ := sByte_out h0 hs
 rw [r1] at a1 b1 e1
 obtain ⟨y2, a2, b2⟩ := sByte_out b1 hs
 rw [r2] at a2 b2
 obtain ⟨y3, a3, b3⟩ := sByte_out b2 hs
 rw [r3] at a3 b3
 obtain ⟨y4, a4, b4⟩ := sByte_out b3 hs
 rw [r4] at a4 b4 e3
 rw [r5] at e2
 have i1 := c1.toNat_lt
 have i2 := c2.toNat_lt
 have i3 := c3.toNat_lt
 obtain ⟨a, q, g1, g2, y, r', l, rfl, rfl, g3, g4⟩ := dec_loop s hs (c0.toNat : Int) ((c1.toNat : Int) + 256 * (c2.toNat : Int)) c3.toNat (by omega) y4 (t, false) b4
 unfold spec_DecodeHeader impl_DecodeHeader
 rw [a1, Option.bind_some, e1, Option.bind_some]
 simp only
 rw [a2, Option.bind_some, show impl_decoder_number_o1a (c1 :: c2 :: c3 :: t, false) 2 = _ from e2, Option.bind_some]
 simp only
 rw [a3, Option.bind_some, e3, Option.bind_some]
 simp only
 rw [a4, Option.bind_some, wrap_in (n := 256 * _) (by omega) (by omega), wrap_in (by omega) (by omega), g1, g2]
 simp only [Option.bind_some, g3.bad]
 by_cases hb : r'.2 = true
 ·simp only [if_pos hb]; exact ⟨_, rfl, rfl, fun h => (by cases h), fun _ => rfl⟩
 simp only [if_neg hb]
 by_cases hr : r'.1 = []
 case neg =>
  rw [if_pos (fun h => hr (g3.end.1 h)), if_pos hr]
  exact ⟨_, rfl, rfl, fun h => (by cases h), fun _ => rfl⟩
 rw [if_neg (fun h => h (g3.end.2 hr)), if_neg (fun h => h hr), l14Ok_out, ValidHeader_out]
 simp only [Option.bind_some, deq]
 by_cases hv : HdrV ((c0.toNat : Int), (c1.toNat : Int) + 256 * (c2.toNat : Int), l)
 ·simp only [if_neg (fun h : ¬ HdrV ((c0.toNat : Int), (c1.toNat : Int) + 256 * (c2.toNat : Int), l) => h hv)]
  exact ⟨_, rfl, rfl, fun _ => hv, fun h => (by cases h)⟩
 ·simp only [if_pos hv]
  exact ⟨_, rfl, rfl, fun h => (by cases h), fun _ => rfl⟩
theorem bad_head (s : Str) (h : ¬ 4 ≤ s.length) : (rdN (rdN (rdN (rdN (s, false) 1).1 1).1 1).1 1).1.2 = true ∧ (rdN (rdN (rdN (s, false) 1).1 2).1 1).1.2 = true := by
 match s, h with
 | [], _ => exact ⟨rfl, rfl⟩
 | [_], _ => exact ⟨rfl, rfl⟩
 | [_, _], _ => exact ⟨rfl, rfl⟩
 | [_, _, _], _ => exact ⟨rfl, rfl⟩
 | _ :: _ :: _ :: _ :: _, h => exact absurd (by simp) h
theorem decode_short (s : Str) (hs : s.length ≤ 1048576) (h4 : ¬ 4 ≤ s.length) : spec_DecodeHeader s = some (noHdr, false) ∧ impl_DecodeHeader s = some (noHdr, false) := by
 obtain ⟨bad1, bad2⟩ := bad_head s h4
 have e1 := iByte_out (s, false) hs
 have l1 := (rdT_len (s, false) 1).1
 have l2 := (rdT_len (rdN (s, false) 1).1 2).1
 have e2 := iNum_out (rdN (s, false) 1).1 2 (by omega) (Nat.le_trans l1 hs)
 have e3 := iByte_out (rdN (rdN (s, false) 1).1 2).1 (Nat.le_trans l2 (Nat.le_trans l1 hs))
 obtain ⟨y1, a1, b1⟩ := sByte_out (RsOk.start s) hs
 obtain ⟨y2, a2, b2⟩ := sByte_out b1 hs
 obtain ⟨y3, a3, b3⟩ := sByte_out b2 hs
 obtain ⟨y4, a4, b4⟩ := sByte_out b3 hs
 have n4 := rdB_in (rdN (rdN (rdN (s, false) 1).1 1).1 1).1
 obtain ⟨m, hm⟩ : ∃ m : Nat, (rdN (rdN (rdN (rdN (s, false) 1).1 1).1 1).1 1).2 = (m : Int) := ⟨_, (Int.toNat_of_nonneg n4.1).symm⟩
 generalize rdN (s, false) 1 = u1 at *
 generalize rdN u1.1 1 = u2 at *
 generalize rdN u2.1 1 = u3 at *
 generalize rdN u3.1 1 = u4 at *
 generalize rdN u1.1 2 = w2 at *
 generalize rdN w2.1 1 = w3 at *
 refine ⟨?_, ?_⟩
 ·unfold spec_DecodeHeader
  rw [a1, Option.bind_some]
  simp only
  rw [a2, Option.bind_some]
  simp only
  rw [a3, Option.bind_some]
  simp only
  rw [a4, Option.bind_some, hm]
  obtain ⟨a, q, g1, _, y, r', l, rfl, _, g3, g4⟩ := dec_loop s hs u1.2 (IntKind.i64.wrap (u2.2 + IntKind.i64.wrap (256 * u3.2))) m (by omega) y4 u4.1 b4
  rw [g1]
  simp only [Option.bind_some, g3.bad, g4 bad1, if_true]
  rfl
 ·unfold impl_DecodeHeader
  rw [e1, Option.bind_some, show impl_decoder_number_o1a u1.1 2 = _ from e2, Option.bind_some, e3, Option.bind_some]
  unfold impl_DecodeHeader_l1
  have i1 : impl_DecodeHeader_l1_b 0 0 w3.1 (u1.2, w2.2, ([] : List DMsg)) w3.2 = some (.inr (0, 0, w3.1, (u1.2, w2.2, ([] : List DMsg)))) := by
   simp only [impl_DecodeHeader_l1_b, bad2, not_true_eq_false, if_false]
   split <;> rfl
  rw [loopO_inr (r := (0, 0, w3.1, (u1.2, w2.2, ([] : List DMsg)))) i1]
  simp only [Option.bind_some, bad2, if_true]
  rfl
theorem decode_two (s : Str) (hs : s.length ≤ 1048576) : ∃ o, spec_DecodeHeader s = some o ∧ impl_DecodeHeader s = some o ∧ (o.2 = true → HdrV o.1) ∧ (o.2 = false → o.1 = noHdr) := by
 by_cases h4 : 4 ≤ s.length
 ·obtain ⟨c0, c1, c2, c3, t, rfl⟩ : ∃ c0 c1 c2 c3 t, s = c0 :: c1 :: c2 :: c3 :: t := by
   match s, h4 with
   | c0 :: c1 :: c2 :: c3 :: t, _ => exact ⟨c0, c1, c2, c3, t, rfl⟩
  exact decode_full c0 c1 c2 c3 t hs
 ·obtain ⟨h1, h2⟩ := decode_short s hs h4
  exact ⟨_, h1, h2, fun h => (by cases h), fun _ => rfl⟩
end Go.Proofs.TM
namespace Go.Proofs.TM
open Go Go.Proofs
set_option linter.unusedVariables false
set_option linter.unusedSimpArgs false
set_option maxHeartbeats 1000000
theorem l00Has_out (l : List Int) (n : Int) (h : l.length ≤ 1048576) : spec_l00Has l n = some (decide (n ∈ l)) := by
 unfold spec_l00Has spec_l00Has_l1
 obtain ⟨r, hr, hp⟩ := loop_ex (f := fun s => spec_l00Has_l1_b l n s) (fun r => (r = .inl () ∧ n ∉ l) ∨ (r = .inr true ∧ n ∈ l)) l.length (fun i s => s = (i : Int) ∧ ∀ j x, j < i → l[j]? = some x → x ≠ n) (fun i s hi hs => by
  obtain ⟨rfl, hall⟩ := hs
  simp only [spec_l00Has_l1_b]
  by_cases hn : i < l.length
  ·obtain ⟨x, hx⟩ := get_at hn
   rw [if_pos (by omega), if_pos (by omega), Int.toNat_natCast, hx, Option.bind_some]
   by_cases hxn : x = n
   ·rw [if_pos hxn]; exact .inl ⟨_, rfl, .inr ⟨rfl, hxn ▸ List.mem_of_getElem? hx⟩⟩
   ·rw [if_neg hxn, w1 (by omega)]
    refine .inr ⟨hn, _, rfl, by omega, fun j y hj hy => ?_⟩
    by_cases hji : j = i
    ·subst hji; rw [hx] at hy; cases hy; exact hxn
    ·exact hall j y (by omega) hy
  ·rw [if_neg (by omega)]
   refine .inl ⟨_, rfl, .inl ⟨rfl, fun hm => ?_⟩⟩
   obtain ⟨j, hj, he⟩ := List.mem_iff_getElem.1 hm
   exact hall j n (by omega) (by rw [List.getElem?_eq_getElem hj, he]) rfl) l.length 0 0 (by omega) ⟨rfl, fun j x hj => by omega⟩
 rw [hr]
 rcases hp with ⟨rfl, hm⟩ | ⟨rfl, hm⟩ <;> simp [hm]
theorem Contains_out (l : List Int) (n : Int) (h : l.length ≤ 1048576) : slices_Contains_int64_int64_ l n = some (decide (n ∈ l)) := by
 unfold slices_Contains_int64_int64_ slices_Index_int64_int64_ slices_Index_int64_int64__l1
 obtain ⟨r, hr, hp⟩ := loop_ex (f := fun s => slices_Index_int64_int64__l1_b l n l.length s) (fun r => (r = .inl () ∧ n ∉ l) ∨ (∃ k : Nat, r = .inr (k : Int) ∧ n ∈ l)) l.length (fun i s => s = (i : Int) ∧ ∀ j x, j < i → l[j]? = some x → n ≠ x) (fun i s hi hs => by
  obtain ⟨rfl, hall⟩ := hs
  simp only [slices_Index_int64_int64__l1_b]
  by_cases hn : i < l.length
  ·obtain ⟨x, hx⟩ := get_at hn
   rw [if_pos (by omega), if_pos (by omega), Int.toNat_natCast, hx, Option.bind_some]
   by_cases hxn : n = x
   ·rw [if_pos hxn]; exact .inl ⟨_, rfl, .inr ⟨i, rfl, hxn ▸ List.mem_of_getElem? hx⟩⟩
   ·rw [if_neg hxn, w1 (by omega)]
    refine .inr ⟨hn, _, rfl, by omega, fun j y hj hy => ?_⟩
    by_cases hji : j = i
    ·subst hji; rw [hx] at hy; cases hy; exact hxn
    ·exact hall j y (by omega) hy
  ·rw [if_neg (by omega)]
   refine .inl ⟨_, rfl, .inl ⟨rfl, fun hm => ?_⟩⟩
   obtain ⟨j, hj, he⟩ := List.mem_iff_getElem.1 hm
   exact hall j n (by omega) (by rw [List.getElem?_eq_getElem hj, he]) rfl) l.length 0 0 (by omega) ⟨rfl, fun j x hj => by omega⟩
 rw [hr]
 rcases hp with ⟨rfl, hm⟩ | ⟨k, rfl, hm⟩
 ·simp [hm]
 ·have : (k : Int) ≥ 0 := by omega
  simp [hm, this]
theorem u8_zero {c : UInt8} (h : (c.toNat : Int) = 0) : c = 0 := UInt8.toNat_inj.1 (by show c.toNat = 0; omega)
theorem trim_out : ∀ (n : Nat) (s : Str), s.length = n → n ≤ 1048576 → ∃ t, strings_trimRightByte s 0 = some t ∧ (t = [] ↔ ∀ b ∈ s, b = 0) := by
 intro n
 induction n with
 | zero =>
  intro s hs _
  have : s = [] := List.eq_nil_of_length_eq_zero hs
  subst this
  refine ⟨[], ?_, by simp⟩
  unfold strings_trimRightByte strings_trimRightByte_l1
  rw [loopO_inr (r := []) (by simp [strings_trimRightByte_l1_b])]; rfl
 | succ n ih =>
  intro s hs hn
  obtain ⟨c, hc⟩ := get_at (l := s) (i := n) (by omega)
  have hsp : s = s.take n ++ [c] := by
   have h1 : s.take (n + 1) = s.take n ++ [c] := by rw [List.take_add_one, hc]; rfl
   rw [List.take_of_length_le (by omega)] at h1
   exact h1
  have step : strings_trimRightByte_l1_b 0 s = if c = 0 then some (.inl (s.take n)) else some (.inr s) := by
   simp only [strings_trimRightByte_l1_b]
   rw [if_pos (by omega), wrap_in (by omega) (by omega), if_pos (by omega), show ((s.length : Int) - 1).toNat = n by omega, hc, Option.bind_some]
   by_cases h0 : c = 0
   ·subst h0
    rw [if_pos (by rfl), if_pos rfl, show (s.length : Int) - 1 = ((n : Nat) : Int) by omega, subL_to s n (by omega)]; rfl
   ·rw [if_neg (fun h => h0 (u8_zero h)), if_neg h0]
  by_cases h0 : c = 0
  ·obtain ⟨t, h1, h2⟩ := ih (s.take n) (by simp; omega) (by omega)
   refine ⟨t, ?_, ?_⟩
   ·unfold strings_trimRightByte strings_trimRightByte_l1 at h1 ⊢
    rw [loopO_inl (s' := s.take n) (by rw [step, if_pos h0])]
    exact h1
   ·rw [h2]
    conv => rhs; rw [hsp]
    simp only [List.mem_append, List.mem_singleton, h0]
    exact ⟨fun h b hb => hb.elim (h b) id, fun h b hb => h b (.inl hb)⟩
  ·refine ⟨s, ?_, ?_⟩
   ·unfold strings_trimRightByte strings_trimRightByte_l1
    rw [loopO_inr (r := s) (by rw [step, if_neg h0])]; rfl
   ·constructor
    ·intro h; rw [h] at hs; simp at hs
    ·intro h; exact absurd (h c (List.mem_of_getElem? hc)) h0
theorem trimmed_out (s : Str) (h : s.length ≤ 1048576) : ∃ t, impl_trimmed s = some t ∧ (t = [] ↔ ∀ b ∈ s, b = 0) := by
 unfold impl_trimmed strings_TrimRight
 by_cases hs : s = []
 ·subst hs; exact ⟨[], by simp, by simp⟩
 ·rw [if_neg hs]
  obtain ⟨t, h1, h2⟩ := trim_out _ s rfl h
  exact ⟨t, by rw [h1]; rfl, h2⟩
theorem l03Zeros_out (n : Nat) (h : n ≤ 1048576) : spec_l03Zeros n = some (List.replicate n 0) := by
 unfold spec_l03Zeros spec_l00Max
 by_cases h0 : (n : Int) > 0
 ·rw [if_pos h0, Option.bind_some, mkL_ok 1 _ _ (by unfold maxRow; omega) (by unfold maxRow; omega), Option.bind_some]; simp
 ·have : n = 0 := by omega
  subst this
  rw [if_neg h0, Option.bind_some, show (0 : Int) = ((0 : Nat) : Int) from rfl, mkL_ok 1 _ _ (by unfold maxRow; omega) (by unfold maxRow; omega), Option.bind_some]; simp
def chN (pg : Str) : Nat := leN (pg.take 2)
def chL (pg : Str) : Nat := leN ((pg.drop 2).take 2)
def ChOk (pg : Str) : Prop := (1 ≤ chL pg ∧ chL pg ≤ 60) ∧ (chN pg = 0 ∨ chL pg = 60) ∧ ∀ b ∈ pg.drop (4 + chL pg), b = 0
theorem ch_lt (pg : Str) : chN pg < 65536 ∧ chL pg < 65536 := by
 have h : ∀ s : Str, s.length ≤ 2 → leN s < 65536 := fun s hs => by
  have h1 := leN_lt s
  have : 256 ^ s.length ≤ 256 ^ 2 := Nat.pow_le_pow_right (by omega) hs
  omega
 exact ⟨h _ (by simp; omega), h _ (by simp; omega)⟩
theorem chainBytes_out (pg : Str) (h : pg.length = 64) : ∃ o, impl_chainBytes pg = some o ∧ (o.2.2 = true ↔ ChOk pg) ∧ (ChOk pg → o.1 = (chN pg : Int) ∧ o.2.1 = (pg.drop 4).take (chL pg)) := by
 have hlt := ch_lt pg
 have e1 := iNum_out (pg, false) 2 (by omega) (by simp only; omega)
 have t1 : rdN (pg, false) 2 = ((pg.drop 2, false), (chN pg : Int)) := by unfold rdN rdT chN; simp only; rw [if_pos (by omega)]
 have e2 := iNum_out (pg.drop 2, false) 2 (by omega) (by simp; omega)
 have t2 : rdN (pg.drop 2, false) 2 = ((pg.drop 4, false), (chL pg : Int)) := by unfold rdN rdT chL; simp only; rw [if_pos (by simp; omega)]; simp [List.drop_drop]
 unfold impl_chainBytes
 rw [show impl_decoder_number_o1a (pg, false) 2 = _ from e1, Option.bind_some, t1]
 simp only
 rw [show impl_decoder_number_o1a (pg.drop 2, false) 2 = _ from e2, Option.bind_some, t2]
 simp only [within_out, Option.bind_some, deq]
 by_cases hn : 1 ≤ (chL pg : Int) ∧ (chL pg : Int) ≤ 60
 case neg =>
  rw [if_pos hn]
  exact ⟨_, rfl, ⟨fun h => (by cases h), fun h => absurd h.1 (by omega)⟩, fun h => absurd h.1 (by omega)⟩
 rw [if_neg (fun h => h hn), iTake_out _ _ (by omega) (by simp; omega), Option.bind_some]
 have t3 : rdT (pg.drop 4, false) (chL pg) = ((pg.drop (4 + chL pg), false), (pg.drop 4).take (chL pg)) := by unfold rdT; simp only; rw [if_pos (by simp; omega)]; simp [List.drop_drop]
 rw [t3]
 simp only
 obtain ⟨t, h1, h2⟩ := trimmed_out (pg.drop (4 + chL pg)) (by simp; omega)
 rw [h1, Option.bind_some]
 by_cases ht : t = []
 ·rw [if_pos ht]
  by_cases h60 : (chL pg : Int) = 60
  ·rw [if_pos h60]
   exact ⟨_, rfl, ⟨fun _ => ⟨by omega, .inr (by omega), h2.1 ht⟩, fun _ => rfl⟩, fun _ => ⟨rfl, rfl⟩⟩
  ·rw [if_neg h60]
   refine ⟨_, rfl, ⟨fun h => ⟨by omega, .inl (by simpa using h), h2.1 ht⟩, fun h => ?_⟩, fun _ => ⟨rfl, rfl⟩⟩
   have := h.2.1.resolve_right (by omega)
   simpa using this
 ·rw [if_neg ht]
  exact ⟨_, rfl, ⟨fun h => (by cases h), fun h => absurd (h2.2 h.2.2) ht⟩, fun h => absurd (h2.2 h.2.2) ht⟩
theorem zeros_iff (l : Str) (n : Nat) (h : l.length = n) : l = List.replicate n 0 ↔ ∀ b ∈ l, b = 0 := by
 subst h
 rw [List.eq_replicate_iff]; simp
def UsedP (p : DPager) (k : Int) : Prop := (areaK p < k ∧ k < (p.1.1.length : Int)) ∧ bitP (areaP p) k = true
open Classical in
theorem l14Used_out (p : DPager) (hp : PagerV p) (hin : PagerIn p 1048576) (k : Int) : spec_l14Used p k = some (decide (UsedP p k)) := by
 have ha := area_in hp
 unfold spec_l14Used
 rw [l13Data_out p hp k 1 (by omega) (by omega), Option.bind_some, l13Area_out p hp hin, Option.bind_some]
 by_cases h : areaK p < k ∧ k < (p.1.1.length : Int)
 ·rw [if_pos (by simp; omega), l13Bit_out _ k (areaP_len hp) (by omega) (by omega), Option.bind_some]
  by_cases hb : bitP (areaP p) k = true
  ·rw [hb]; exact dT ⟨h, hb⟩
  ·rw [show bitP (areaP p) k = false by simpa using hb]; exact dF fun q => hb q.2
 ·rw [if_neg (by simp; omega)]; exact dF fun q => h q.1
open Classical in
theorem allocated_any (p : DPager) (hp : PagerV p) (hin : PagerIn p 1048576) (k : Int) : impl_Pager_allocated p k = some (decide (UsedP p k)) := by
 by_cases h : areaK p < k ∧ k < (p.1.1.length : Int)
 ·rw [allocated_out p hp hin k h.1 h.2]
  by_cases hb : bitP (areaP p) k = true
  ·rw [hb]; exact dT ⟨h, hb⟩
  ·rw [show bitP (areaP p) k = false by simpa using hb]; exact dF fun q => hb q.2
 ·unfold impl_Pager_allocated
  rw [isData_out p hp k 1 (by omega) (by omega), Option.bind_some, if_neg (by simp; omega)]
  exact dF fun q => h q.1
theorem nodup_len : ∀ (n : Nat) (l : List Int), l.Nodup → (∀ x ∈ l, 0 ≤ x ∧ x < (n : Int)) → l.length ≤ n
 | 0, l, _, h => by
  cases l with
  | nil => simp
  | cons x l => have := h x (List.mem_cons_self ..); omega
 | n + 1, l, hd, h => by
  by_cases hm : (n : Int) ∈ l
  ·have h1 := nodup_len n (l.erase (n : Int)) (hd.erase _) fun x hx => by
    have hx' := (hd.mem_erase_iff).1 hx
    have := h x hx'.2
    have hne := hx'.1
    omega
   have := List.length_erase_of_mem hm
   omega
  ·have := nodup_len n l hd fun x hx => by
    have := h x hx
    have : x ≠ (n : Int) := fun he => hm (he ▸ hx)
    omega
   omega
theorem app_form (l : Str) (m : Str) (h : l.length + m.length ≤ 1000000) : appL 1 (l.map Bt.mk) (m.map Bt.mk) = some ((l ++ m).map Bt.mk) := by
 unfold appL
 rw [if_pos (by simp only [List.length_map]; unfold maxRow; omega), List.map_append]
theorem app8 (l : List Int) (x : Int) (h : l.length ≤ 100000) : appL 8 l (lit [x]) = some (l ++ [x]) := by unfold appL lit; rw [if_pos (by simp [maxRow]; omega)]
abbrev ChR := (List Int × DHdr × Bool) ⊕ (Int × Int × List Int × Str)
abbrev ChR' := (List Int × DHdr × Bool) ⊕ (Int × Int × List Int × List Bt)
def ChE (p : DPager) (r : ChR) (q : ChR') : Prop := (r = .inl ([], noHdr, false) ∧ q = .inl ([], noHdr, false)) ∨ ∃ bs f, r = .inr (0, 0, bs, f) ∧ q = .inr (0, 0, bs, f.map Bt.mk) ∧ bs ≠ [] ∧ bs.length ≤ 256 ∧ f.length ≤ 1000000 ∧ bs.Nodup ∧ ∀ k ∈ bs, UsedP p k
theorem chain_loops (p : DPager) (hp : PagerV p) (hin : PagerIn p 1048576) (k : Int) : ∃ r q, spec_l14Chain_l1 (p, 0, 0, [], [], k) = some r ∧ impl_Pager_chain_l1 (p, k, 0, 0, [], nilB) = some q ∧ ChE p r q := by
 have ha := area_in hp
 unfold spec_l14Chain_l1 impl_Pager_chain_l1
 refine loop_rel (f := fun s => spec_l14Chain_l1_b s.1 s.2.1 s.2.2.1 s.2.2.2.1 s.2.2.2.2.1 s.2.2.2.2.2) (g := fun s => impl_Pager_chain_l1_b s.1 s.2.1 s.2.2.1 s.2.2.2.1 s.2.2.2.2.1 s.2.2.2.2.2) (ChE p) (fun s => 257 - s.2.2.2.1.length)
  (fun s t => ∃ (bs : List Int) (f : Str) (k : Int), s = (p, 0, 0, bs, f, k) ∧ t = (p, k, 0, 0, bs, f.map Bt.mk) ∧ (k = 0 → bs = []) ∧ f.length ≤ 60 * bs.length ∧ bs.Nodup ∧ ∀ x ∈ bs, UsedP p x) (fun s t hI => ?_) 257 _ _ rfl ⟨[], [], k, rfl, rfl, fun _ => rfl, by simp, List.nodup_nil, by simp⟩
 obtain ⟨bs, f, k, rfl, rfl, hk0, hf, hd, hu⟩ := hI
 have hlen : bs.length ≤ 256 := by
  have := nodup_len p.1.1.length bs hd fun x hx => by have := (hu x hx).1; omega
  omega
 -- the second loop goes on
 have hgo : ∀ z, impl_Pager_chain_p2 p k 0 0 bs (f.map Bt.mk) = some z → impl_Pager_chain_l1_b p k 0 0 bs (f.map Bt.mk) = Sum.elim (fun u => some (.inr (.inl u))) (fun u => some (.inl u)) z := fun z hz => by
  unfold impl_Pager_chain_l1_b
  rw [hz]
  by_cases hk : k = 0
  ·rw [if_neg (by simpa using hk), if_pos (by rw [hk0 hk]; rfl)]
   cases z <;> rfl
  ·rw [if_pos hk]
   cases z <;> rfl
 have stop : ∀ z, impl_Pager_chain_p2 p k 0 0 bs (f.map Bt.mk) = some (.inl z) → loopO (fun s => impl_Pager_chain_l1_b s.1 s.2.1 s.2.2.1 s.2.2.2.1 s.2.2.2.2.1 s.2.2.2.2.2) (p, k, 0, 0, bs, f.map Bt.mk) = some (.inl z) := fun z hz => loopO_inr (hgo _ hz)
 have hfail : (([] : List Int), ((0 : Int), (0 : Int), ([] : List DMsg)), false) = ([], noHdr, false) := rfl
 simp only [spec_l14Chain_l1_b, l14Used_out p hp hin, l00Has_out bs k (by omega), Option.bind_some, deq]
 by_cases hus : UsedP p k
 case neg =>
  rw [if_pos (by simpa using hus)]
  refine .inl ⟨_, _, rfl, stop _ (by unfold impl_Pager_chain_p2; rw [allocated_any p hp hin, Option.bind_some, if_pos (by simpa using hus)]; rfl), .inl ⟨rfl, rfl⟩⟩
 rw [if_neg (by simpa using hus)]
 have hk := hus.1
 by_cases hmem : k ∈ bs
 ·rw [if_pos hmem]
  refine .inl ⟨_, _, rfl, stop _ (by unfold impl_Pager_chain_p2; rw [allocated_any p hp hin, Option.bind_some, if_neg (by simpa using hus), Contains_out bs k (by omega), Option.bind_some, if_pos (by simpa using hmem)]; rfl), .inl ⟨rfl, rfl⟩⟩
 rw [if_neg hmem, app8 bs k (by omega), Option.bind_some, l12Get_out p k hp hin (by omega) (by omega), Option.bind_some]
 have hpl := getP_len p k hp (by omega) (by omega)
 have hlt := ch_lt (getP p k)
 have g1 := l01GetUint_out (getP p k) 0 2 (by omega) (by omega) (by omega)
 have g2 := l01GetUint_out (getP p k) 2 2 (by omega) (by omega) (by omega)
 rw [List.drop_zero, show leN ((getP p k).take 2) = chN (getP p k) from rfl, if_pos (by omega)] at g1
 rw [show leN (((getP p k).drop 2).take 2) = chL (getP p k) from rfl, if_pos (by omega)] at g2
 rw [show spec_l01GetUint (getP p k) 0 2 = _ from g1, Option.bind_some, show spec_l01GetUint (getP p k) 2 2 = _ from g2, Option.bind_some]
 simp only
 obtain ⟨o, c1, c2, c3⟩ := chainBytes_out (getP p k) hpl
 have p2 : impl_Pager_chain_p2 p k 0 0 bs (f.map Bt.mk) = if ¬(o.2.2 = true) then some (.inl ([], noHdr, false)) else (strings_Builder_WriteString_o0d (f.map Bt.mk) o.2.1).bind fun r => some (.inr (p, o.1, 0, 0, bs ++ [k], r.1)) := by
  unfold impl_Pager_chain_p2
  rw [allocated_any p hp hin, Option.bind_some, if_neg (by simpa using hus), Contains_out bs k (by omega), Option.bind_some, if_neg (by simpa using hmem), app8 bs k (by omega), Option.bind_some, get_out p k hp hin (by omega) (by omega), Option.bind_some, c1, Option.bind_some]
  rfl
 have bad : ¬ ChOk (getP p k) → loopO (fun s => impl_Pager_chain_l1_b s.1 s.2.1 s.2.2.1 s.2.2.2.1 s.2.2.2.2.1 s.2.2.2.2.2) (p, k, 0, 0, bs, f.map Bt.mk) = some (.inl ([], noHdr, false)) := fun hc => stop _ (by rw [p2, if_pos (fun h => hc (c2.1 h))])
 generalize hpg : getP p k = pg at *
 by_cases n1 : (chL pg : Int) < 1
 ·rw [if_pos n1]; exact .inl ⟨_, _, rfl, bad fun h => by have := h.1; omega, .inl ⟨rfl, rfl⟩⟩
 rw [if_neg n1]
 by_cases n2 : (chL pg : Int) > 60
 ·rw [if_pos n2]; exact .inl ⟨_, _, rfl, bad fun h => by have := h.1; omega, .inl ⟨rfl, rfl⟩⟩
 rw [if_neg n2]
 have z1 : subL pg (some (IntKind.i64.wrap (4 + (chL pg : Int)))) none = some (pg.drop (4 + chL pg)) := by
  rw [wrap_in (by omega) (by omega), show 4 + (chL pg : Int) = ((4 + chL pg : Nat) : Int) by omega, subL_from _ _ (by omega)]
 have z2 : spec_l03Zeros (IntKind.i64.wrap (60 - (chL pg : Int))) = some (List.replicate (60 - chL pg) 0) := by
  rw [wrap_in (by omega) (by omega), show 60 - (chL pg : Int) = ((60 - chL pg : Nat) : Int) by omega, l03Zeros_out _ (by omega)]
 have z3 := zeros_iff (pg.drop (4 + chL pg)) (60 - chL pg) (by simp; omega)
 have fine : ChOk pg → spec_l14Chain_p2 p 0 0 (bs ++ [k]) f pg (chN pg) (chL pg) = some (if chN pg = 0 then .inl (0, 0, bs ++ [k], f ++ (pg.drop 4).take (chL pg)) else .inr (p, 0, 0, bs ++ [k], f ++ (pg.drop 4).take (chL pg), (chN pg : Int))) := fun hc => by
  unfold spec_l14Chain_p2
  rw [wrap_in (by omega) (by omega), show 4 + (chL pg : Int) = ((4 + chL pg : Nat) : Int) by omega, show (4 : Int) = ((4 : Nat) : Int) from rfl, subL_mid pg 4 (4 + chL pg) (by omega) (by omega), Option.bind_some, show (pg.take (4 + chL pg)).drop 4 = (pg.drop 4).take (chL pg) by rw [List.drop_take]; congr 1; omega, if_pos (by simp; omega)]
  by_cases h0 : chN pg = 0
  ·rw [if_pos (by omega), if_pos h0]
  ·rw [if_neg (by omega), if_neg h0]
 -- what both do with a block that is right
 have both : ChOk pg → ∀ (F : Option ((DPager × Int × Int × List Int × Str × Int) ⊕ ChR)), F = ((spec_l14Chain_p2 p 0 0 (bs ++ [k]) f pg (chN pg) (chL pg)).bind fun r => Sum.elim (fun u => some (.inr (.inr (u.1, u.2.1, u.2.2.1, u.2.2.2)))) (fun u => some (.inl (u.1, u.2.1, u.2.2.1, u.2.2.2.1, u.2.2.2.2.1, u.2.2.2.2.2))) r) →
   (∃ r q, F = some (.inr r) ∧ loopO (fun s => impl_Pager_chain_l1_b s.1 s.2.1 s.2.2.1 s.2.2.2.1 s.2.2.2.2.1 s.2.2.2.2.2) (p, k, 0, 0, bs, f.map Bt.mk) = some q ∧ ChE p r q) ∨
   ∃ s' t', F = some (.inl s') ∧ impl_Pager_chain_l1_b p k 0 0 bs (f.map Bt.mk) = some (.inl t') ∧
    (∃ (bs : List Int) (f : Str) (k : Int), s' = (p, 0, 0, bs, f, k) ∧ t' = (p, k, 0, 0, bs, f.map Bt.mk) ∧ (k = 0 → bs = []) ∧ f.length ≤ 60 * bs.length ∧ bs.Nodup ∧ ∀ x ∈ bs, UsedP p x) ∧ 257 - s'.2.2.2.1.length < 257 - bs.length := by
  intro hc F hF
  obtain ⟨d1, d2⟩ := c3 hc
  have hnd : (bs ++ [k]).Nodup := by
   rw [List.nodup_append]
   exact ⟨hd, by simp, fun x hx y hy => by simp at hy; subst hy; exact fun he => hmem (he ▸ hx)⟩
  have hus' : ∀ x ∈ bs ++ [k], UsedP p x := fun x hx => by
   rcases List.mem_append.1 hx with h | h
   ·exact hu x h
   ·simp at h; subst h; exact hus
  have hfl : (f ++ (pg.drop 4).take (chL pg)).length ≤ 60 * (bs ++ [k]).length := by simp; omega
  have hbl : (bs ++ [k]).length = bs.length + 1 := by simp
  have q2 : impl_Pager_chain_p2 p k 0 0 bs (f.map Bt.mk) = some (.inr (p, (chN pg : Int), 0, 0, bs ++ [k], (f ++ (pg.drop 4).take (chL pg)).map Bt.mk)) := by
   rw [p2, if_neg (fun h => h (c2.2 hc)), d1, d2]
   unfold strings_Builder_WriteString_o0d
   rw [app_form _ _ (by simp; omega)]; rfl
  rw [fine hc] at hF
  by_cases h0 : chN pg = 0
  ·rw [if_pos h0] at hF
   left
   refine ⟨.inr (0, 0, bs ++ [k], f ++ (pg.drop 4).take (chL pg)), .inr (0, 0, bs ++ [k], (f ++ (pg.drop 4).take (chL pg)).map Bt.mk), hF, ?_, .inr ⟨_, _, rfl, rfl, by simp, ?_, by omega, hnd, hus'⟩⟩
   ·rw [loopO_inl (hgo _ q2)]
    refine loopO_inr ?_
    simp only [impl_Pager_chain_l1_b]
    rw [if_neg (by simp; omega), if_neg (by simp; omega)]
   ·have := nodup_len p.1.1.length _ hnd fun x hx => by have := (hus' x hx).1; omega
    omega
  ·rw [if_neg h0] at hF
   right
   refine ⟨_, _, hF, hgo _ q2, ⟨bs ++ [k], f ++ (pg.drop 4).take (chL pg), (chN pg : Int), rfl, rfl, fun (h : (chN pg : Int) = 0) => absurd h (by omega), hfl, hnd, hus'⟩, by simp; omega⟩
 rw [z1, z2]
 simp only [Option.bind_some]
 by_cases n0 : (chN pg : Int) = 0
 case neg =>
  rw [if_pos n0]
  by_cases n60 : (chL pg : Int) = 60
  case neg => rw [if_pos n60]; exact .inl ⟨_, _, rfl, bad fun h => by have := h.2.1; omega, .inl ⟨rfl, rfl⟩⟩
  rw [if_neg (fun h => h n60)]
  by_cases nz : pg.drop (4 + chL pg) = List.replicate (60 - chL pg) 0
  ·rw [if_neg (fun h => h nz)]
   exact both ⟨by omega, .inr (by omega), z3.1 nz⟩ _ rfl
  ·rw [if_pos nz]; exact .inl ⟨_, _, rfl, bad fun h => nz (z3.2 h.2.2), .inl ⟨rfl, rfl⟩⟩
 rw [if_neg (fun h => h n0)]
 by_cases nz : pg.drop (4 + chL pg) = List.replicate (60 - chL pg) 0
 ·rw [if_neg (fun h => h nz)]
  exact both ⟨by omega, .inl (by omega), z3.1 nz⟩ _ rfl
 ·rw [if_pos nz]; exact .inl ⟨_, _, rfl, bad fun h => nz (z3.2 h.2.2), .inl ⟨rfl, rfl⟩⟩
theorem chain_two (p : DPager) (hp : PagerV p) (hin : PagerIn p 1048576) (k : Int) : ∃ o, spec_l14Chain p k = some o ∧ impl_Pager_chain p k = some o ∧ (o.2.2 = true → HdrV o.2.1 ∧ o.1 ≠ []) ∧ o.1.length ≤ 256 ∧ o.1.Nodup ∧ ∀ x ∈ o.1, UsedP p x := by
 obtain ⟨r, q, h1, h2, h3⟩ := chain_loops p hp hin k
 unfold spec_l14Chain impl_Pager_chain
 rw [h1, h2]
 simp only [Option.bind_some]
 rcases h3 with ⟨rfl, rfl⟩ | ⟨bs, f, rfl, rfl, hne, hl, hf, hd, hu⟩
 ·exact ⟨_, rfl, rfl, fun h => (by cases h), by simp, List.nodup_nil, by simp⟩
 ·obtain ⟨o, d1, d2, d3, d4⟩ := decode_two f (by omega)
  simp only [Sum.elim_inr, d1]
  unfold strings_Builder_String_of5 strB
  rw [if_pos (by simp only [List.length_map]; unfold maxRow; omega), map_v]
  simp only [Option.bind_some, d2]
  exact ⟨_, rfl, rfl, fun h => ⟨d3 h, hne⟩, hl, hd, hu⟩
end Go.Proofs.TM
