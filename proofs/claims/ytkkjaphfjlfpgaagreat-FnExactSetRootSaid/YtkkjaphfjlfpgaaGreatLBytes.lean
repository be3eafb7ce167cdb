/- The bytes of numbers. -/
import Derived.Test.YtkkjaphfjlfpgaaGreatLBase
import Derived.Test.YtkkjaphfjlfpgaaGreatLLoop
namespace Go.Proofs.TM
open Go Go.Proofs
set_option linter.unusedVariables false
set_option linter.unusedSimpArgs false
set_option maxHeartbeats 1000000

/-! ### Loops that build a list -/
theorem loop_build {β : Type} (n : Nat) (g : Nat → β) (f : List β × Int → Option ((List β × Int) ⊕ List β))
    (h1 : ∀ i : Nat, i < n → f ((List.range i).map g, (i : Int)) = some (.inl ((List.range (i + 1)).map g, (i : Int) + 1)))
    (h2 : f ((List.range n).map g, (n : Int)) = some (.inr ((List.range n).map g))) : loopO f ([], 0) = some ((List.range n).map g) := by
  refine loop_some n (fun i s => s = ((List.range i).map g, (i : Int))) (fun i s hi hs => ?_) n 0 _ (by omega) rfl
  subst hs
  by_cases hn : i < n
  · exact .inr ⟨hn, _, h1 i hn, by simp⟩
  · have : i = n := by omega
    subst this; exact .inl h2

theorem loop_fill {β : Type} (n : Nat) (g : Nat → β) (f : List β × Int → Option ((List β × Int) ⊕ List β)) (m : List β) (hm : m.length = n)
    (h1 : ∀ (m : List β) (i : Nat), i < n → m.length = n → f (m, (i : Int)) = some (.inl (m.set i (g i), (i : Int) + 1)))
    (h2 : ∀ m : List β, m.length = n → f (m, (n : Int)) = some (.inr m)) : loopO f (m, 0) = some ((List.range n).map g) := by
  refine loop_some n (fun i s => s.2 = (i : Int) ∧ s.1.length = n ∧ ∀ j, j < i → s.1[j]? = some (g j)) (fun i s hi hs => ?_) n 0 _ (by omega) ⟨rfl, hm, fun j hj => by omega⟩
  obtain ⟨m, k⟩ := s
  obtain ⟨rfl, hml, hall⟩ := hs
  simp only at hml hall ⊢
  by_cases hn : i < n
  · refine .inr ⟨hn, _, h1 m i hn hml, by simp, by simp [hml], fun j hj => ?_⟩
    by_cases hji : j = i
    · subst hji; simp only; rw [List.getElem?_set_self (by omega)]
    · simp only; rw [List.getElem?_set_ne (by omega)]; exact hall j (by omega)
  · have : i = n := by omega
    subst this
    refine .inl ?_
    rw [h2 m hml]
    congr 2
    apply List.ext_getElem?
    intro j
    by_cases hj : j < i
    · rw [hall j hj]; simp [hj]
    · rw [List.getElem?_eq_none (by omega), List.getElem?_eq_none (by simp; omega)]

/-! ### Bytes of a number -/
theorem u8_wrap_eq (y : Int) : IntKind.u8.wrap y = y % 256 := by simp [IntKind.wrap, IntKind.bits, IntKind.signed]
theorem u64_wrap_in {y : Int} (h : 0 ≤ y) (h' : y < 18446744073709551616) : IntKind.u64.wrap y = y := by simp [IntKind.wrap, IntKind.bits, IntKind.signed]; omega
theorem and255 (y : Int) (h : -9223372036854775808 ≤ y) (h' : y ≤ 9223372036854775807) : bitV .and .i64 y 255 = y % 256 := by
  have e : ((BitVec.ofInt 64 y &&& BitVec.ofInt 64 255).toNat : Int) = y % 256 := by
    rw [BitVec.toNat_and, BitVec.toNat_ofInt, BitVec.toNat_ofInt]
    have : ((255 : Int) % ((2 ^ 64 : Nat) : Int)).toNat = 2 ^ 8 - 1 := by decide
    rw [this, Nat.and_two_pow_sub_one_eq_mod]
    omega
  show (bitsI .and .i64 y 255).getD 0 = _
  show IntKind.i64.wrap ((BitVec.ofInt 64 y &&& BitVec.ofInt 64 255).toNat : Int) = _
  rw [e]
  exact wrap_in (by omega) (by omega)

/-- The byte of a number at a place. -/
def byB (n : Int) (j : Nat) : Bt := ⟨UInt8.ofNat ((shrV .i64 n (8 * (j : Int))) % 256).toNat⟩
/-- A number's lowest bytes, the least one first. -/
def leB (n : Int) (k : Nat) : Str := (List.range k).map fun j => (byB n j).v
@[simp] theorem leB_length (n : Int) (k : Nat) : (leB n k).length = k := by simp [leB]
theorem leB_map (n : Int) (k : Nat) : ((List.range k).map (byB n)).map Bt.v = leB n k := by simp [leB, Function.comp_def]

theorem shr_in {n : Int} (c : Int) (h : -9223372036854775808 ≤ n) (h' : n ≤ 9223372036854775807) : -9223372036854775808 ≤ shrV .i64 n c ∧ shrV .i64 n c ≤ 9223372036854775807 := by
  unfold shrV
  rw [Int.fdiv_eq_ediv_of_nonneg _ (by exact Int.pow_nonneg (by omega))]
  have hp : (0 : Int) < 2 ^ (min c.toNat (IntKind.bits .i64)) := Int.pow_pos (by omega)
  generalize (2 : Int) ^ (min c.toNat (IntKind.bits .i64)) = p at hp
  constructor
  · rcases Int.lt_or_le n 0 with h0 | h0
    · exact Int.le_ediv_of_mul_le hp (by omega)
    · exact Int.le_trans (by omega) (Int.ediv_nonneg h0 (by omega))
  · rcases Int.lt_or_le n 0 with h0 | h0
    · have := Int.ediv_neg_of_neg_of_pos h0 hp
      omega
    · exact Int.le_trans (Int.ediv_le_self _ h0) h'

theorem l01Bytes_out (n : Int) (k : Nat) (hk : k ≤ 8) (h : -9223372036854775808 ≤ n) (h' : n ≤ 9223372036854775807) : spec_l01Bytes n k = some (leB n k) := by
  unfold spec_l01Bytes spec_l01Bytes_l1
  rw [loop_build k (byB n) (fun s => spec_l01Bytes_l1_b n k s.1 s.2) (fun i hi => ?_) (by simp [spec_l01Bytes_l1_b])]
  · rw [Option.bind_some, leB_map]
  · simp only [spec_l01Bytes_l1_b]
    rw [if_pos (by omega), u64_wrap_in (y := (i : Int)) (by omega) (by omega), u64_wrap_in (by omega) (by omega), if_neg (by omega)]
    have hs := shr_in (8 * (i : Int)) h h'
    rw [and255 _ hs.1 hs.2, u8_wrap_eq, show (shrV .i64 n (8 * (i : Int))) % 256 % 256 = (shrV .i64 n (8 * (i : Int))) % 256 by omega]
    unfold appL
    rw [if_pos (by simp [lit, maxRow]; omega), Option.bind_some, w1 (by omega)]
    simp [List.range_succ, lit, byB]

theorem putBytes_out (n : Int) (k : Nat) (hk : k ≤ 8) : impl_putBytes n k = some (leB n k) := by
  unfold impl_putBytes impl_putBytes_l1
  rw [mkL_ok 1 _ _ (by unfold maxRow; omega) (by unfold maxRow; omega), Option.bind_some]
  rw [loop_fill k (byB n) (fun s => impl_putBytes_l1_b n _ s.1 s.2) _ (by simp) (fun m i hi hm => ?_) (fun m hm => ?_)]
  · rw [Option.bind_some, leB_map]
  · simp only [impl_putBytes_l1_b]
    obtain ⟨x, hx⟩ := get_at (l := m) (by omega : i < m.length)
    rw [List.length_replicate, if_pos (by omega), wrap_in (n := 8 * (i : Int)) (by omega) (by omega), if_neg (by omega), if_pos (by omega), Int.toNat_natCast, hx, Option.bind_some, w1 (by omega), u8_wrap_eq]
    rfl
  · simp only [impl_putBytes_l1_b]
    rw [List.length_replicate, if_neg (by omega)]

end Go.Proofs.TM
