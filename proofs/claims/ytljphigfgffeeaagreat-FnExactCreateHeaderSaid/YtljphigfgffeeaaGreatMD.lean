import Derived.Test.YtljphigfgffeeaaGreatMA
import Derived.Test.YtljphigfgffeeaaGreatMC
import Derived.Test.YtljphigfgffeeaaGreatMB
/- Headers: sizes, copies, comparisons, marks; which are valid. -/
namespace Go.Proofs.TM
open Go Go.Proofs
set_option linter.unusedVariables false
set_option linter.unusedSimpArgs false
set_option maxHeartbeats 1000000

abbrev DMsg := Int × Int × Str
abbrev DHdr := Int × Int × List DMsg
def MsgsOk (l : List DMsg) : Prop := l.length ≤ 9223372036854775807 ∧ ∀ x ∈ l, x.2.2.length ≤ 9223372036854775807
theorem msgsOk_of {l : List DMsg} (h : Gd.ok l) : MsgsOk l := ⟨Nat.le_trans h.1 (by decide), fun x hx => Nat.le_trans (h.2 x hx).2.2.1 (by decide)⟩

theorem szMsgS_out (l : List DMsg) (h : MsgsOk l) (L : Int) (h0 : 0 ≤ L) (h1 : L < 9223372036854775807) : laws_szMessageS l L = some (-1) ∨ ∃ r, laws_szMessageS l L = some r ∧ 0 ≤ r ∧ r ≤ L ∧ (l.length : Int) ≤ L := by
  obtain ⟨hl, hs⟩ := h
  unfold laws_szMessageS
  rw [wrap_in (by omega) (by omega)]
  by_cases hc : L - (l.length : Int) < 0
  · rw [if_pos hc]; exact .inl rfl
  rw [if_neg hc]
  obtain ⟨r, hr, hx⟩ := loop_room l.length (fun s => laws_szMessageS_l1_b l s.1 s.2) (L - l.length) (fun i k hi hk hkL => by
    obtain ⟨x, hx⟩ := get_at hi
    have hxl := hs x (List.mem_of_getElem? hx)
    simp only [laws_szMessageS_l1_b, laws_szMessage, Int.ofNat_lt.2 hi, Int.natCast_nonneg, Int.toNat_natCast, hx, if_true, Option.bind_some, w1 (Nat.lt_of_lt_of_le hi hl)]
    rw [wrap_in (by omega) (by omega)]
    by_cases hc : k - (x.2.2.length : Int) < 0
    · simp only [if_pos hc]; exact .inl rfl
    · simp only [if_neg hc, Option.bind_some]; exact .inr ⟨_, by omega, by omega, rfl⟩) (fun k => by simp [laws_szMessageS_l1_b]) (by omega)
  unfold laws_szMessageS_l1
  rw [hr]
  rcases hx with rfl | ⟨k, rfl, ha, hb⟩
  · exact .inl rfl
  · exact .inr ⟨k, rfl, ha, by omega, by omega⟩
theorem szHeader_out (a : DHdr) (h : MsgsOk a.2.2) (L : Int) (h0 : 0 ≤ L) (h1 : L ≤ 1048576) : ∃ r, laws_szHeader a L = some r ∧ (0 ≤ r → a.2.2.length ≤ 1048576) := by
  unfold laws_szHeader
  rcases szMsgS_out a.2.2 h L h0 (by omega) with e | ⟨r, e, a1, b1, c1⟩
  · exact ⟨-1, by rw [e]; rfl, fun h => by omega⟩
  · exact ⟨r, by rw [e, Option.bind_some, if_neg (by omega)], fun _ => by omega⟩

theorem toMsgS_out (l : List DMsg) (h : l.length ≤ 1048576) : laws_toMessageS l = some l := by
  unfold laws_toMessageS laws_toMessageS_l1
  rw [mkL_ok 32 _ _ (by unfold maxRow; omega) (by unfold maxRow; omega), Option.bind_some, loop_copy l (fun s => laws_toMessageS_l1_b l s.1 s.2) (fun m i x hi hx hm => ?_) (fun m => ?_) _ (by simp), Option.bind_some]
  · obtain ⟨y, hy⟩ := get_at (l := m) (by omega : i < m.length)
    have hx' := (List.getElem?_eq_some_iff.1 hx).2
    simp [laws_toMessageS_l1_b, laws_toMessage, hi, hx', hm, w1 (show i < 9223372036854775807 by omega)]
  · simp [laws_toMessageS_l1_b]
theorem toHeader_out (a : DHdr) (h : a.2.2.length ≤ 1048576) : laws_toHeader a = some a := by
  unfold laws_toHeader
  rw [toMsgS_out _ h]; rfl

theorem eqMsg_out (a b : DMsg) : laws_eqMessage a b = some (decide (a = b)) := by
  unfold laws_eqMessage
  obtain ⟨a1, a2, a3⟩ := a
  obtain ⟨b1, b2, b3⟩ := b
  by_cases h1 : a1 = b1 <;> by_cases h2 : a2 = b2 <;> by_cases h3 : a3 = b3 <;> simp [h1, h2, h3]
theorem eqMsgS_same (l : List DMsg) (h : l.length ≤ 1048576) : laws_eqMessageS l l = some true := by
  unfold laws_eqMessageS laws_eqMessageS_l1
  rw [if_neg (by simp), loop_eq l l rfl (fun s => laws_eqMessageS_l1_b l l s) (.inl ()) (.inr false) (fun i x hi hx hx2 => by
    have hx' := (List.getElem?_eq_some_iff.1 hx).2
    simp [laws_eqMessageS_l1_b, eqMsg_out, hi, hx', w1 (show i < 9223372036854775807 by omega)]) (fun i x y hi hx hy hxy => by
    rw [hx] at hy; cases hy; exact absurd rfl hxy) (by simp [laws_eqMessageS_l1_b])]
  simp
theorem eqHeader_same (a : DHdr) (h : a.2.2.length ≤ 1048576) : laws_eqHeader a a = some true := by
  simp [laws_eqHeader, eqMsgS_same _ h]

noncomputable def eMsg (k : Int) : DMsg := (k, k + 1, mt (k + 2))
theorem markMsgS_out (l : List DMsg) (h : l.length ≤ 1048576) (K : Int) (h0 : 0 ≤ K) (hK : K ≤ 1073741824) : ∃ m, laws_markMessageS_o71 l K = some (m, K + 3 * l.length) ∧ m.length = l.length := by
  unfold laws_markMessageS_o71 laws_markMessageS_o71_l1
  obtain ⟨m, h1, h2, h3⟩ := loop_mark 3 eMsg l.length K (fun s => laws_markMessageS_o71_l1_b s.1 s.2.1 s.2.2) (fun m i k hi hm hk => by
    obtain ⟨y, hy⟩ := get_at (l := m) (by omega : i < m.length)
    simp [laws_markMessageS_o71_l1_b, hi, hm, hy, w1 (show i < 9223372036854775807 by omega), wrap_in (show -9223372036854775808 ≤ k + 1 by omega) (by omega), markText_mt (show k + 2 ≤ 1099511627776 by omega), wrap_in (show -9223372036854775808 ≤ k + 2 by omega) (by omega), wrap_in (show -9223372036854775808 ≤ k + 3 by omega) (by omega), eMsg, Int.add_assoc]) (fun m k hm => by simp [laws_markMessageS_o71_l1_b, hm]) l rfl
  exact ⟨m, by rw [h1]; simp, h2⟩
theorem markHeader_out (a : DHdr) (h : a.2.2.length ≤ 1048576) (K : Int) (h0 : 0 ≤ K) (hK : K ≤ 1073741824) : ∃ r, laws_markHeader_o63 a.1 a.2.1 a.2.2 K = some r ∧ r.1.length = a.2.2.length ∧ ¬ r.2 < 0 := by
  obtain ⟨m, h1, h2⟩ := markMsgS_out a.2.2 h K h0 hK
  refine ⟨(m, K + 3 * a.2.2.length), ?_, h2, by simp only; omega⟩
  simp only [laws_markHeader_o63, h1, Option.bind_some, h2, if_true, fixLen_eq h2]

/-! ### Which are valid -/
def MsgV (m : DMsg) : Prop := (1 ≤ m.1 ∧ m.1 ≤ 9) ∧ (0 ≤ m.2.1 ∧ m.2.1 ≤ 255) ∧ (m.2.2.length : Int) ≤ 200
def HdrV (h : DHdr) : Prop := (1 ≤ h.1 ∧ h.1 ≤ 3) ∧ (0 ≤ h.2.1 ∧ h.2.1 ≤ 1000) ∧ (h.2.2.length : Int) ≤ 24 ∧ ∀ m ∈ h.2.2, MsgV m
open Classical in
theorem l14Ok_out (h : DHdr) : spec_l14Ok h = some (decide (HdrV h)) := by
  unfold spec_l14Ok
  simp only [l00In_out, Option.bind_some, deq]
  by_cases h1 : 1 ≤ h.1 ∧ h.1 ≤ 3
  case neg => rw [if_pos h1]; exact dF fun q => h1 q.1
  rw [if_neg (by simpa using h1)]
  by_cases h2 : 0 ≤ h.2.1 ∧ h.2.1 ≤ 1000
  case neg => rw [if_pos h2]; exact dF fun q => h2 q.2.1
  rw [if_neg (by simpa using h2)]
  by_cases h3 : (h.2.2.length : Int) > 24
  · rw [if_pos h3]; exact dF fun q => by have := q.2.2.1; omega
  rw [if_neg h3]
  unfold spec_l14Ok_l1
  rw [loop_mem h.2.2 MsgV (fun s => spec_l14Ok_l1_b h s) (.inl ()) (.inr false) (fun i x hi hx hp => by
      obtain ⟨a, b, c⟩ := hp
      simp only [spec_l14Ok_l1_b, Int.ofNat_lt.2 hi, Int.natCast_nonneg, Int.toNat_natCast, hx, if_true, Option.bind_some, l00In_out, deq]
      rw [if_neg (by simpa using a), if_neg (by simpa using b), if_neg (by omega), w1 (by omega)]) (fun i x hi hx hp => by
      simp only [spec_l14Ok_l1_b, Int.ofNat_lt.2 hi, Int.natCast_nonneg, Int.toNat_natCast, hx, if_true, Option.bind_some, l00In_out, deq]
      by_cases a : 1 ≤ x.1 ∧ x.1 ≤ 9
      case neg => rw [if_pos a]
      rw [if_neg (by simpa using a)]
      by_cases b : 0 ≤ x.2.1 ∧ x.2.1 ≤ 255
      case neg => rw [if_pos b]
      rw [if_neg (by simpa using b)]
      by_cases c : (x.2.2.length : Int) > 200
      · rw [if_pos c]
      · exact absurd ⟨a, b, by omega⟩ hp) (by simp [spec_l14Ok_l1_b])]
  by_cases h4 : ∀ x ∈ h.2.2, MsgV x
  · rw [if_pos h4]; exact dT ⟨h1, h2, by omega, h4⟩
  · rw [if_neg h4]; exact dF fun q => h4 q.2.2.2
open Classical in
theorem ValidHeader_out (h : DHdr) : impl_ValidHeader h = some (decide (HdrV h)) := by
  unfold impl_ValidHeader
  simp only [within_out, Option.bind_some, deq]
  by_cases h1 : 1 ≤ h.1 ∧ h.1 ≤ 3
  case neg => rw [if_neg h1]; exact dF fun q => h1 q.1
  rw [if_pos h1]
  by_cases h2 : 0 ≤ h.2.1 ∧ h.2.1 ≤ 1000
  case neg => rw [if_neg h2]; exact dF fun q => h2 q.2.1
  rw [if_pos h2]
  by_cases h3 : (h.2.2.length : Int) ≤ 24
  case neg => rw [if_neg h3]; exact dF fun q => h3 q.2.2.1
  rw [if_pos h3]
  have hm : ∀ x : DMsg, impl_ValidHeader_c1 x = some (!decide (MsgV x)) := fun x => by
    unfold impl_ValidHeader_c1 impl_messageOk
    simp only [within_out, Option.bind_some, deq]
    by_cases a : 1 ≤ x.1 ∧ x.1 ≤ 9
    case neg => rw [if_neg a]; simp [MsgV, a]
    rw [if_pos a]
    by_cases b : 0 ≤ x.2.1 ∧ x.2.1 ≤ 255
    case neg => rw [if_neg b]; simp [MsgV, b]
    rw [if_pos b]
    simp [MsgV, a, b]
  unfold slices_ContainsFunc_impl_Message_impl_Message__ValidHeader_c1 slices_IndexFunc_impl_Message_impl_Message__ValidHeader_c1 slices_IndexFunc_impl_Message_impl_Message__ValidHeader_c1_l1
  obtain ⟨r, hr, hx⟩ := loop_find h.2.2 MsgV (fun t => slices_IndexFunc_impl_Message_impl_Message__ValidHeader_c1_l1_b h.2.2 h.2.2.length t) () (fun i x hi hx hp => by
      have hx' := (List.getElem?_eq_some_iff.1 hx).2
      simp [slices_IndexFunc_impl_Message_impl_Message__ValidHeader_c1_l1_b, hm, hi, hx', hp, w1 (show i < 9223372036854775807 by omega)]) (fun i x hi hx hp => by
      have hx' := (List.getElem?_eq_some_iff.1 hx).2
      simp [slices_IndexFunc_impl_Message_impl_Message__ValidHeader_c1_l1_b, hm, hi, hx', hp]) (by simp [slices_IndexFunc_impl_Message_impl_Message__ValidHeader_c1_l1_b])
  rw [hr]
  rcases hx with ⟨rfl, h5⟩ | ⟨k, rfl, hk, h5⟩
  · simp [HdrV, h1, h2, h3]; exact fun a b c hm => h5 _ hm
  · simp [HdrV, h1, h2, h3, hk]
    by_cases hall : ∀ m ∈ h.2.2, MsgV m
    · exact absurd hall h5
    · simpa using hall
end Go.Proofs.TM
/- The bytes of numbers. -/
namespace Go.Proofs.TM
open Go Go.Proofs
set_option linter.unusedVariables false
set_option linter.unusedSimpArgs false
set_option maxHeartbeats 1000000

/-! ### Loops that build a list -/
theorem loop_build {β : Type} (n : Nat) (g : Nat → β) (f : List β × Int → Option ((List β × Int) ⊕ List β))
    (h1 : ∀ i : Nat, i < n → f ((List.range i).map g, (i : Int)) = some (.inl ((List.range (i + 1)).map g, (i : Int) + 1)))
    (h2 : f ((List.range n).map g, (n : Int)) = some (.inr ((List.range n).map g))) : loopO f ([], 0) = some ((List.range n).map g) := by
  refine loop_some n (fun i s => s = ((List.range i).map g, (i : Int))) (fun i s hi hs => ?_) n 0 _ (by omega) rfl
  subst hs
  by_cases hn : i < n
  · exact .inr ⟨hn, _, h1 i hn, by simp⟩
  · have : i = n := by omega
    subst this; exact .inl h2

theorem loop_fill {β : Type} (n : Nat) (g : Nat → β) (f : List β × Int → Option ((List β × Int) ⊕ List β)) (m : List β) (hm : m.length = n)
    (h1 : ∀ (m : List β) (i : Nat), i < n → m.length = n → f (m, (i : Int)) = some (.inl (m.set i (g i), (i : Int) + 1)))
    (h2 : ∀ m : List β, m.length = n → f (m, (n : Int)) = some (.inr m)) : loopO f (m, 0) = some ((List.range n).map g) := by
  refine loop_some n (fun i s => s.2 = (i : Int) ∧ s.1.length = n ∧ ∀ j, j < i → s.1[j]? = some (g j)) (fun i s hi hs => ?_) n 0 _ (by omega) ⟨rfl, hm, fun j hj => by omega⟩
  obtain ⟨m, k⟩ := s
  obtain ⟨rfl, hml, hall⟩ := hs
  simp only at hml hall ⊢
  by_cases hn : i < n
  · refine .inr ⟨hn, _, h1 m i hn hml, by simp, by simp [hml], fun j hj => ?_⟩
    by_cases hji : j = i
    · subst hji; simp only; rw [List.getElem?_set_self (by omega)]
    · simp only; rw [List.getElem?_set_ne (by omega)]; exact hall j (by omega)
  · have : i = n := by omega
    subst this
    refine .inl ?_
    rw [h2 m hml]
    congr 2
    apply List.ext_getElem?
    intro j
    by_cases hj : j < i
    · rw [hall j hj]; simp [hj]
    · rw [List.getElem?_eq_none (by omega), List.getElem?_eq_none (by simp; omega)]

/-! ### Bytes of a number -/
theorem u8_wrap_eq (y : Int) : IntKind.u8.wrap y = y % 256 := by simp [IntKind.wrap, IntKind.bits, IntKind.signed]
theorem u64_wrap_in {y : Int} (h : 0 ≤ y) (h' : y < 18446744073709551616) : IntKind.u64.wrap y = y := by simp [IntKind.wrap, IntKind.bits, IntKind.signed]; omega
theorem and255 (y : Int) (h : -9223372036854775808 ≤ y) (h' : y ≤ 9223372036854775807) : bitV .and .i64 y 255 = y % 256 := by
  have e : ((BitVec.ofInt 64 y &&& BitVec.ofInt 64 255).toNat : Int) = y % 256 := by
    rw [BitVec.toNat_and, BitVec.toNat_ofInt, BitVec.toNat_ofInt]
    have : ((255 : Int) % ((2 ^ 64 : Nat) : Int)).toNat = 2 ^ 8 - 1 := by decide
    rw [this, Nat.and_two_pow_sub_one_eq_mod]
    omega
  show (bitsI .and .i64 y 255).getD 0 = _
  show IntKind.i64.wrap ((BitVec.ofInt 64 y &&& BitVec.ofInt 64 255).toNat : Int) = _
  rw [e]
  exact wrap_in (by omega) (by omega)

/-- The byte of a number at a place. -/
def byB (n : Int) (j : Nat) : Bt := ⟨UInt8.ofNat ((shrV .i64 n (8 * (j : Int))) % 256).toNat⟩
/-- A number's lowest bytes, the least one first. -/
def leB (n : Int) (k : Nat) : Str := (List.range k).map fun j => (byB n j).v
@[simp] theorem leB_length (n : Int) (k : Nat) : (leB n k).length = k := by simp [leB]
theorem leB_map (n : Int) (k : Nat) : ((List.range k).map (byB n)).map Bt.v = leB n k := by simp [leB, Function.comp_def]

theorem shr_in {n : Int} (c : Int) (h : -9223372036854775808 ≤ n) (h' : n ≤ 9223372036854775807) : -9223372036854775808 ≤ shrV .i64 n c ∧ shrV .i64 n c ≤ 9223372036854775807 := by
  unfold shrV
  rw [Int.fdiv_eq_ediv_of_nonneg _ (by exact Int.pow_nonneg (by omega))]
  have hp : (0 : Int) < 2 ^ (min c.toNat (IntKind.bits .i64)) := Int.pow_pos (by omega)
  generalize (2 : Int) ^ (min c.toNat (IntKind.bits .i64)) = p at hp
  constructor
  · rcases Int.lt_or_le n 0 with h0 | h0
    · exact Int.le_ediv_of_mul_le hp (by omega)
    · exact Int.le_trans (by omega) (Int.ediv_nonneg h0 (by omega))
  · rcases Int.lt_or_le n 0 with h0 | h0
    · have := Int.ediv_neg_of_neg_of_pos h0 hp
      omega
    · exact Int.le_trans (Int.ediv_le_self _ h0) h'

theorem putBytes_out (n : Int) (k : Nat) (hk : k ≤ 8) : impl_putBytes n k = some (leB n k) := by
  unfold impl_putBytes impl_putBytes_l1
  rw [mkL_ok 1 _ _ (by unfold maxRow; omega) (by unfold maxRow; omega), Option.bind_some]
  rw [loop_fill k (byB n) (fun s => impl_putBytes_l1_b n _ s.1 s.2) _ (by simp) (fun m i hi hm => ?_) (fun m hm => ?_)]
  · rw [Option.bind_some, leB_map]
  · simp only [impl_putBytes_l1_b]
    obtain ⟨x, hx⟩ := get_at (l := m) (by omega : i < m.length)
    rw [List.length_replicate, if_pos (by omega), wrap_in (n := 8 * (i : Int)) (by omega) (by omega), if_neg (by omega), if_pos (by omega), Int.toNat_natCast, hx, Option.bind_some, w1 (by omega), u8_wrap_eq]
    rfl
  · simp only [impl_putBytes_l1_b]
    rw [List.length_replicate, if_neg (by omega)]

end Go.Proofs.TM
/- The binary form of headers. -/
namespace Go.Proofs.TM
open Go Go.Proofs
set_option linter.unusedVariables false
set_option linter.unusedSimpArgs false
set_option maxHeartbeats 1000000

theorem l02Byte_out (n : Int) : spec_l02Byte n = some (leB n 1) := by
  unfold spec_l02Byte lit leB byB
  rw [u8_wrap_eq]
  have : shrV .i64 n (8 * ((0 : Nat) : Int)) = n := by
    unfold shrV
    rw [Int.fdiv_eq_ediv_of_nonneg _ (by exact Int.pow_nonneg (by omega))]
    simp
  simp only [List.range_succ, List.range_zero, List.nil_append, List.map_cons, List.map_nil, this]

theorem leB_one (y : Int) : leB y 1 = [(byB y 0).v] := by simp [leB, List.range_succ]
theorem leB_succ (n : Int) (k : Nat) : leB n (k + 1) = leB n k ++ [(byB n k).v] := by simp [leB, List.range_succ]
theorem shr_zero (n : Int) : shrV .i64 n (8 * ((0 : Nat) : Int)) = n := by
  unfold shrV
  rw [Int.fdiv_eq_ediv_of_nonneg _ (by exact Int.pow_nonneg (by omega))]
  simp
theorem l02Put_out (n : Int) (k : Nat) (hk : k ≤ 8) (h : -9223372036854775808 ≤ n) (h' : n ≤ 9223372036854775807) : spec_l02Put n k false = some (leB n k) := by
  unfold spec_l02Put spec_l02Put_l1
  rw [loop_some (r := leB n k) k (fun i s => s = (leB n i, (i : Int))) (fun i s hi hs => by
    subst hs
    simp only [spec_l02Put_l1_b]
    by_cases hlt : i < k
    · refine .inr ⟨hlt, _, ?_, rfl⟩
      have hs := shr_in (8 * (i : Int)) h h'
      rw [if_pos (by omega), wrap_in (n := 8 * (i : Int)) (by omega) (by omega), u64_wrap_in (by omega) (by omega), if_neg (by omega), and255 _ hs.1 hs.2, l02Byte_out, Option.bind_some, if_neg (by simp), if_pos (by simp; omega), w1 (by omega), leB_succ n i, leB_one]
      congr 4
      unfold byB
      rw [shr_zero, show (shrV .i64 n (8 * (i : Int))) % 256 % 256 = (shrV .i64 n (8 * (i : Int))) % 256 by omega]
    · have : i = k := by omega
      subst this
      rw [if_neg (by omega)]
      exact .inl rfl) k 0 (([] : Str), (0 : Int)) (by omega) (by simp [leB]), Option.bind_some]

def msgB (m : DMsg) : Str := leB m.1 1 ++ leB m.2.1 1 ++ leB m.2.2.length 1 ++ m.2.2
def hdrB (h : DHdr) : Str := leB h.1 1 ++ leB h.2.1 2 ++ leB h.2.2.length 1
def encL (l : List DMsg) : Str := (l.map msgB).flatten
def encH (h : DHdr) : Str := hdrB h ++ encL h.2.2
theorem encL_len (l : List DMsg) (h : ∀ m ∈ l, MsgV m) : (encL l).length ≤ 203 * l.length := by
  induction l with
  | nil => simp [encL]
  | cons x l ih =>
    have h1 := (h x (by simp)).2.2
    have h2 := ih (fun m hm => h m (by simp [hm]))
    simp only [encL, List.map_cons, List.flatten_cons, List.length_append, msgB, leB_length, List.length_cons] at h2 ⊢
    omega
theorem encH_len {h : DHdr} (hv : HdrV h) : 4 ≤ (encH h).length ∧ (encH h).length ≤ 4876 := by
  have h1 := encL_len h.2.2 hv.2.2.2
  have h2 := hv.2.2.1
  simp only [encH, hdrB, List.length_append, leB_length]
  omega
theorem encL_take (l : List DMsg) {i : Nat} {x : DMsg} (hx : l[i]? = some x) : encL (l.take (i + 1)) = encL (l.take i) ++ msgB x := by
  unfold encL
  rw [List.take_add_one, hx]
  simp

theorem l14Encode_out (h : DHdr) (hv : HdrV h) : spec_l14Encode h = some (encH h) := by
  obtain ⟨h1, h2, h3, h4⟩ := hv
  unfold spec_l14Encode spec_l14Encode_l1
  rw [l02Byte_out, Option.bind_some, show ((2 : Int)) = ((2 : Nat) : Int) from rfl, l02Put_out h.2.1 2 (by omega) (by omega) (by omega), Option.bind_some, if_pos (by simp), l02Byte_out, Option.bind_some, if_pos (by simp),
    loop_some (r := encH h) h.2.2.length (fun i s => s = (hdrB h ++ encL (h.2.2.take i), (i : Int))) (fun i s hi hs => by
      subst hs
      simp only [spec_l14Encode_l1_b]
      by_cases hlt : i < h.2.2.length
      · obtain ⟨x, hx⟩ := get_at hlt
        have hm := h4 x (List.mem_of_getElem? hx)
        have hl := encL_len (h.2.2.take i) (fun m hm => h4 m (List.mem_of_mem_take hm))
        have hl2 : (h.2.2.take i).length ≤ 24 := by rw [List.length_take]; omega
        have hm3 := hm.2.2
        refine .inr ⟨hlt, _, ?_, rfl⟩
        rw [if_pos (by omega), if_pos (by omega), Int.toNat_natCast, hx, Option.bind_some, l02Byte_out, Option.bind_some, l02Byte_out, Option.bind_some, if_pos (by simp), l02Byte_out, Option.bind_some, if_pos (by simp), if_pos (by simp only [List.length_append, leB_length]; omega), if_pos (by simp only [List.length_append, leB_length, hdrB]; omega), w1 (by omega), encL_take _ hx, List.append_assoc (hdrB h)]
        rfl
      · have : i = h.2.2.length := by omega
        subst this
        rw [if_neg (by omega), List.take_length]
        exact .inl rfl) h.2.2.length 0 _ (by omega) (by simp [encL, hdrB]), Option.bind_some]

theorem encode_out (h : DHdr) (hv : HdrV h) : impl_Header_encode h = some (encH h) := by
  obtain ⟨h1, h2, h3, h4⟩ := hv
  have k1 : ∀ n : Int, impl_putBytes n 1 = some (leB n 1) := fun n => putBytes_out n 1 (by omega)
  have k2 : ∀ n : Int, impl_putBytes n 2 = some (leB n 2) := fun n => putBytes_out n 2 (by omega)
  unfold impl_Header_encode impl_Header_encode_l1
  rw [k1, Option.bind_some, k2, Option.bind_some, if_pos (by simp), k1, Option.bind_some, if_pos (by simp)]
  have hw : ∀ (a b : Str), a.length + b.length ≤ 1000000 → strings_Builder_WriteString_o0d (a.map Bt.mk) b = some ((a ++ b).map Bt.mk, (b.length : Int)) := fun a b hab => by
    unfold strings_Builder_WriteString_o0d appL
    rw [if_pos (by simp only [List.length_map]; unfold maxRow; omega), Option.bind_some, List.map_append]
  rw [show nilB = (([] : Str).map Bt.mk) from rfl, hw _ _ (by simp), Option.bind_some,
    loop_some (r := (encH h).map Bt.mk) h.2.2.length (fun i s => s = ((hdrB h ++ encL (h.2.2.take i)).map Bt.mk, (i : Int))) (fun i s hi hs => by
      subst hs
      simp only [impl_Header_encode_l1_b]
      by_cases hlt : i < h.2.2.length
      · obtain ⟨x, hx⟩ := get_at hlt
        have hm := h4 x (List.mem_of_getElem? hx)
        have hl := encL_len (h.2.2.take i) (fun m hm => h4 m (List.mem_of_mem_take hm))
        have hl2 : (h.2.2.take i).length ≤ 24 := by rw [List.length_take]; omega
        have hm3 := hm.2.2
        refine .inr ⟨hlt, _, ?_, rfl⟩
        rw [if_pos (by omega), if_pos (by omega), Int.toNat_natCast, hx, Option.bind_some, k1, Option.bind_some, k1, Option.bind_some, if_pos (by simp), k1, Option.bind_some, if_pos (by simp), if_pos (by simp only [List.length_append, leB_length]; omega), hw _ _ (by simp only [List.length_append, leB_length, hdrB]; omega), Option.bind_some, w1 (by omega), encL_take _ hx, List.append_assoc (hdrB h)]
        rfl
      · have : i = h.2.2.length := by omega
        subst this
        rw [if_neg (by omega), List.take_length]
        exact .inl rfl) h.2.2.length 0 _ (by omega) (by simp [encL, hdrB]), Option.bind_some]
  have hl := encH_len ⟨h1, h2, h3, h4⟩
  unfold strings_Builder_String_of5 strB
  rw [if_pos (by simp only [List.length_map]; unfold maxRow; omega), Option.bind_some, map_v]; rfl
end Go.Proofs.TM
/- Chains of blocks: grown, and written. -/
namespace Go.Proofs.TM
open Go Go.Proofs
set_option linter.unusedVariables false
set_option linter.unusedSimpArgs false
set_option maxHeartbeats 1000000

/-- Two loops side by side come to one answer. -/
theorem loop_two {σ τ ρ : Type} {f : σ → Option (σ ⊕ ρ)} {g : τ → Option (τ ⊕ ρ)} (P : ρ → Prop) (n : Nat) (I : Nat → σ → τ → Prop)
    (h : ∀ i s t, i ≤ n → I i s t → (∃ r, f s = some (.inr r) ∧ g t = some (.inr r) ∧ P r) ∨ (i < n ∧ ∃ s' t', f s = some (.inl s') ∧ g t = some (.inl t') ∧ I (i + 1) s' t')) :
    ∀ k i s t, k + i = n → I i s t → ∃ r, loopO f s = some r ∧ loopO g t = some r ∧ P r := by
  intro k
  induction k with
  | zero =>
    intro i s t hi hs
    rcases h i s t (by omega) hs with ⟨r, h1, h2, hp⟩ | ⟨h1, _⟩
    · exact ⟨r, by rw [loopO_unfold, h1]; rfl, by rw [loopO_unfold, h2]; rfl, hp⟩
    · omega
  | succ k ih =>
    intro i s t hi hs
    rcases h i s t (by omega) hs with ⟨r, h1, h2, hp⟩ | ⟨h1, s', t', h2, h3, h4⟩
    · exact ⟨r, by rw [loopO_unfold, h1]; rfl, by rw [loopO_unfold, h2]; rfl, hp⟩
    · obtain ⟨r, hr, hr2, hp⟩ := ih (i + 1) s' t' (by omega) h4
      exact ⟨r, by rw [loopO_unfold, h2]; exact hr, by rw [loopO_unfold, h3]; exact hr2, hp⟩

/-- A pager with the disk and the superblock of another. -/
structure Like (p q : DPager) : Prop where
  v : PagerV q
  i : PagerIn q 1048576
  d : q.1 = p.1
  s : q.2.1 = p.2.1
theorem Like.set {p q : DPager} (h : Like p q) (hp : PagerV p) {k : Int} {d : Str} (h0 : areaK p ≤ k) (h1 : k < (p.1.1.length : Int)) (hd : d.length = 64) (hs : SetV q k d) : Like p (setP q k d) :=
  have hl : p.2.1.1 = (p.1.1.length : Int) := hp.2.2.2.1
  ⟨setP_valid q k d h.v (by rw [h.s]; exact h0) (by rw [h.s]; omega) hd hs, setP_in q k d h.v h.i, h.d, h.s⟩
theorem Like.area {p q : DPager} (h : Like p q) : areaK q = areaK p := by unfold areaK; rw [h.s]
theorem Like.len {p q : DPager} (h : Like p q) : (q.1.1.length : Int) = (p.1.1.length : Int) := by rw [h.d]

def GoodB (p : DPager) (bs : List Int) : Prop := ∀ b ∈ bs, areaK p < b ∧ b < (p.1.1.length : Int)
theorem outA_like {p q : DPager} (hp : PagerV p) (h : Like p q) : Like p (outA q 1).1 ∧ ((outA q 1).2.2 = 0 → areaK p < (outA q 1).2.1 ∧ (outA q 1).2.1 < (p.1.1.length : Int)) := by
  unfold outA
  by_cases hz : (bestP (runsP q) 1).2 = 0
  · rw [if_pos hz]; exact ⟨h, fun hh => by simp [outPg2] at hh⟩
  rw [if_neg hz]
  have hb := best_bd h.v hz
  rw [h.area, h.len] at hb
  by_cases hs : AllV q 1
  · rw [if_pos hs]
    have ha := area_in hp
    refine ⟨?_, fun _ => ⟨hb.1, by have := hb.2; show (bestP (runsP q) 1).1 < _; omega⟩⟩
    have hsv : SetV q (areaK q) (markP (areaP q) (bestP (runsP q) 1).1 1 true) := hs
    exact h.set hp (by rw [h.area]; omega) (by rw [h.area]; omega) (by rw [markP_len, areaP_len h.v]) hsv
  · rw [if_neg hs]; exact ⟨h, fun hh => by simp [outPg2] at hh⟩

/-- What grows: the pager and its new blocks, or why not. -/
abbrev GrowR := (DPager × List Int) ⊕ (DPager × List Int × Int)
def GrowOk (p : DPager) (n : Nat) : GrowR → Prop
  | .inl r => r.2.length = n ∧ Like p r.1 ∧ GoodB p r.2
  | .inr r => r.2.2 ≠ 0
theorem happ8 (l : List Int) (x : Int) (h : l.length ≤ 100000) : appL 8 l (lit [x]) = some (l ++ [x]) := by unfold appL lit; rw [if_pos (by simp [maxRow]; omega)]
theorem grow_two (p : DPager) (n : Nat) (hp : PagerV p) (hin : PagerIn p 1048576) (hn : n ≤ 1000) :
    ∃ r, spec_l14Grow_ob7_l1 n (p, []) = some r ∧ impl_Pager_grow_o83_l1 n (p, []) = some r ∧ GrowOk p n r := by
  unfold spec_l14Grow_ob7_l1 impl_Pager_grow_o83_l1
  refine loop_two (GrowOk p n) n (fun i s t => t = s ∧ s.2.length = i ∧ Like p s.1 ∧ GoodB p s.2) (fun i s t hi hs => ?_) n 0 _ _ (by omega) ⟨rfl, rfl, ⟨hp, hin, rfl, rfl⟩, fun b hb => by simp at hb⟩
  obtain ⟨q, bs⟩ := s
  obtain ⟨rfl, hl, hq, hb⟩ := hs
  simp only at hl hq hb
  simp only [spec_l14Grow_ob7_l1_b, impl_Pager_grow_o83_l1_b]
  by_cases hlt : i < n
  · obtain ⟨a1, a2⟩ := outA_like hp hq
    rw [if_pos (by omega), if_pos (by omega), l13Allocate_out q 1 hq.v hq.i (by omega) (by omega), allocate_out q 1 hq.v hq.i (by omega) (by omega), Option.bind_some]
    by_cases hc : (outA q 1).2.2 = 0
    · rw [if_neg (by simpa using hc), happ8 _ _ (by omega), Option.bind_some]
      refine .inr ⟨hlt, _, _, rfl, rfl, rfl, by simp [hl], a1, fun b hbm => ?_⟩
      rcases List.mem_append.1 hbm with h | h
      · exact hb b h
      · rw [List.mem_singleton.1 h]; exact a2 hc
    · rw [if_pos hc]
      exact .inl ⟨_, rfl, rfl, hc⟩
  · rw [if_neg (by omega), if_neg (by omega)]
    exact .inl ⟨_, rfl, rfl, by simp only [GrowOk]; exact ⟨by omega, hq, hb⟩⟩

/-- A block of a chain: the next one, how much it holds, the bytes. -/
def chB (next : Int) (s : Str) : Str := leB next 2 ++ leB (min 60 (s.length : Int)) 2 ++ s.take 60
def chD (next : Int) (s : Str) : Str := chB next s ++ List.replicate (64 - (chB next s).length) 0
theorem chB_len (next : Int) (s : Str) : (chB next s).length ≤ 64 := by simp [chB]; omega
theorem chD_len (next : Int) (s : Str) : (chD next s).length = 64 := by have := chB_len next s; simp [chD]; omega
theorem min60 (s : Str) : ∃ m : Nat, (min 60 (s.length : Int)) = (m : Int) ∧ m ≤ s.length ∧ s.take m = s.take 60 ∧ s.drop m = s.drop 60 := by
  by_cases h : s.length ≤ 60
  · exact ⟨s.length, by omega, Nat.le_refl _, by rw [List.take_of_length_le (Nat.le_refl _), List.take_of_length_le h], by rw [List.drop_of_length_le (Nat.le_refl _), List.drop_of_length_le h]⟩
  · exact ⟨60, by omega, by omega, rfl, rfl⟩

open Classical in
theorem store_step (q : DPager) (bs : List Int) (s : Str) (i : Nat) (k next : Int) (hq : PagerIn q 1048576) (hs : s.length ≤ 100000) (hk : bs[i]? = some k) (h0 : -9223372036854775808 ≤ next) (h1 : next ≤ 9223372036854775807) :
    spec_l14Store_o57_p2 q bs s i next = some (if SetV q k (chD next s) then .inr (setP q k (chD next s), bs, s.drop 60, (i : Int)) else .inl (q, bs, 5)) := by
  have hi := (List.getElem?_eq_some_iff.1 hk).1
  obtain ⟨m, m1, m2, m3, m4⟩ := min60 s
  unfold spec_l14Store_o57_p2
  have hmin : spec_l00Min 60 (s.length : Int) = some (m : Int) := by
    unfold spec_l00Min
    by_cases h : (60 : Int) < s.length
    · rw [if_pos h]; congr 1; omega
    · rw [if_neg h]; congr 1; omega
  have k1 : spec_l02Put next 2 false = some (leB next 2) := l02Put_out next 2 (by omega) h0 h1
  have k2 : spec_l02Put (m : Int) 2 false = some (leB m 2) := l02Put_out m 2 (by omega) (by omega) (by omega)
  have hc : leB next 2 ++ leB (m : Int) 2 ++ s.take m = chB next s := by unfold chB; rw [m1, m3]
  have k3 : spec_l01Pad (chB next s) 64 = some (chD next s) := l01Pad_out (chB next s) 64 (chB_len next s) (by omega)
  have hst := congrArg List.length m3
  simp only [List.length_take] at hst
  rw [hmin, Option.bind_some, k1, Option.bind_some, k2, Option.bind_some, if_pos (by simp), subL_to s m m2, Option.bind_some, if_pos (by simp only [List.length_append, leB_length, List.length_take]; omega), subL_from s m m2, Option.bind_some, if_pos (by omega), Int.toNat_natCast, hk, Option.bind_some, hc, k3, Option.bind_some, l12Set_out q k _ hq, Option.bind_some, m4]
  by_cases h : SetV q k (chD next s)
  · rw [if_pos h, if_pos h]; rfl
  · rw [if_neg h, if_neg h]; rfl

open Classical in
theorem chain_step (q : DPager) (bs : List Int) (s : Str) (a b : Int) (k next : Int) (hv : PagerV q) (hq : PagerIn q 1048576) (hs : s.length ≤ 100000) :
    impl_Pager_writeChain_oe4_p2 q bs s k next a b = some (if SetV q k (chD next s) then .inr (setP q k (chD next s), bs, s.drop 60, a, b) else .inl (q, bs, 5)) := by
  obtain ⟨m, m1, m2, m3, m4⟩ := min60 s
  unfold impl_Pager_writeChain_oe4_p2
  have k1 : impl_putBytes next 2 = some (leB next 2) := putBytes_out next 2 (by omega)
  have k2 : impl_putBytes (m : Int) 2 = some (leB m 2) := putBytes_out m 2 (by omega)
  have hc : leB next 2 ++ leB (m : Int) 2 ++ s.take m = chB next s := by unfold chB; rw [m1, m3]
  have k3 : impl_padded (chB next s) 64 = some (chD next s) := padded_out (chB next s) 64 (chB_len next s) (by omega)
  have hst := congrArg List.length m3
  simp only [List.length_take] at hst
  rw [k1, Option.bind_some, m1, k2, Option.bind_some, if_pos (by simp), subL_to s m m2, Option.bind_some, if_pos (by simp only [List.length_append, leB_length, List.length_take]; omega), hc, k3, Option.bind_some, set_out q k _ hv hq, Option.bind_some]
  by_cases h : SetV q k (chD next s)
  · rw [if_pos h, if_pos h, if_neg (by simp), subL_from s m m2, Option.bind_some, m4]
  · rw [if_neg h, if_neg h, if_pos (by simp)]

/-- The block behind the one at a place. -/
def nxt (bs : List Int) (i : Nat) : Int := (bs[i + 1]?).getD 0
open Classical in
theorem store_b (q : DPager) (bs : List Int) (s : Str) (i : Nat) (k : Int) (hq : PagerIn q 1048576) (hs : s.length ≤ 100000) (hl : bs.length ≤ 1000) (hk : bs[i]? = some k) (hb : ∀ b ∈ bs, 0 ≤ b ∧ b ≤ 1000) :
    spec_l14Store_o57_l1_b q bs s i = some (if SetV q k (chD (nxt bs i) s) then .inl (setP q k (chD (nxt bs i) s), bs, s.drop 60, (i : Int) + 1) else .inr (.inr (q, bs, 5))) := by
  have hi := (List.getElem?_eq_some_iff.1 hk).1
  unfold spec_l14Store_o57_l1_b nxt
  rw [if_pos (by omega), w1 (by omega)]
  by_cases hn : i + 1 < bs.length
  · obtain ⟨x, hx⟩ := get_at hn
    have hxb := hb x (List.mem_of_getElem? hx)
    rw [if_pos (by omega), if_pos (by omega), show ((i : Int) + 1).toNat = i + 1 by omega, hx, Option.bind_some, store_step q bs s i k x hq hs hk (by omega) (by omega), Option.bind_some, Option.getD_some]
    by_cases h : SetV q k (chD x s)
    · rw [if_pos h, if_pos h]; simp only [Sum.elim_inr]; rw [w1 (by omega)]
    · rw [if_neg h, if_neg h]; rfl
  · rw [if_neg (by omega), store_step q bs s i k 0 hq hs hk (by omega) (by omega), Option.bind_some, List.getElem?_eq_none (by omega), Option.getD_none]
    by_cases h : SetV q k (chD 0 s)
    · rw [if_pos h, if_pos h]; simp only [Sum.elim_inr]; rw [w1 (by omega)]
    · rw [if_neg h, if_neg h]; rfl
open Classical in
theorem chain_b (q : DPager) (bs : List Int) (s : Str) (i : Nat) (k : Int) (hv : PagerV q) (hq : PagerIn q 1048576) (hs : s.length ≤ 100000) (hl : bs.length ≤ 1000) (hk : bs[i]? = some k) :
    impl_Pager_writeChain_oe4_l1_b q bs s ((bs.length : Nat) : Int) i = some (if SetV q k (chD (nxt bs i) s) then .inl (setP q k (chD (nxt bs i) s), bs, s.drop 60, ((bs.length : Nat) : Int), (i : Int) + 1) else .inr (.inr (q, bs, 5))) := by
  have hi := (List.getElem?_eq_some_iff.1 hk).1
  unfold impl_Pager_writeChain_oe4_l1_b nxt
  rw [if_pos (by omega), if_pos (by omega), Int.toNat_natCast, hk, Option.bind_some, w1 (by omega)]
  by_cases hn : i + 1 < bs.length
  · obtain ⟨x, hx⟩ := get_at hn
    rw [if_pos (by omega), if_pos (by omega), show ((i : Int) + 1).toNat = i + 1 by omega, hx, Option.bind_some, chain_step q bs s _ _ k x hv hq hs, Option.bind_some, Option.getD_some]
    by_cases h : SetV q k (chD x s)
    · rw [if_pos h, if_pos h]; simp only [Sum.elim_inr]; rw [w1 (by omega)]
    · rw [if_neg h, if_neg h]; rfl
  · rw [if_neg (by omega), chain_step q bs s _ _ k 0 hv hq hs, Option.bind_some, List.getElem?_eq_none (by omega), Option.getD_none]
    by_cases h : SetV q k (chD 0 s)
    · rw [if_pos h, if_pos h]; simp only [Sum.elim_inr]; rw [w1 (by omega)]
    · rw [if_neg h, if_neg h]; rfl

abbrev StoreR := (DPager × List Int) ⊕ (DPager × List Int × Int)
def StoreOk (p : DPager) (bs : List Int) : StoreR → Prop
  | .inl r => r.2 = bs ∧ Like p r.1
  | .inr r => r.2.1 = bs ∧ r.2.2 ≠ 0
theorem store_two (p q0 : DPager) (bs : List Int) (s0 : Str) (hp : PagerV p) (hq0 : Like p q0) (hb : GoodB p bs) (hs0 : s0.length ≤ 100000) (hbl : bs.length ≤ 1000) :
    ∃ r, spec_l14Store_o57_l1 (q0, bs, s0, 0) = some r ∧ impl_Pager_writeChain_oe4_l1 (q0, bs, s0, ((bs.length : Nat) : Int), 0) = some r ∧ StoreOk p bs r := by
  unfold spec_l14Store_o57_l1 impl_Pager_writeChain_oe4_l1
  have ha := area_in hp
  refine loop_two (StoreOk p bs) bs.length (fun i s t => ∃ q u, s = (q, bs, u, (i : Int)) ∧ t = (q, bs, u, ((bs.length : Nat) : Int), (i : Int)) ∧ Like p q ∧ u.length ≤ 100000) (fun i s t hi hs => ?_) bs.length 0 _ _ (by omega) ⟨q0, s0, rfl, rfl, hq0, hs0⟩
  obtain ⟨q, u, rfl, rfl, hq, hu⟩ := hs
  by_cases hlt : i < bs.length
  · obtain ⟨k, hk⟩ := get_at hlt
    have hkb := hb k (List.mem_of_getElem? hk)
    simp only [store_b q bs u i k hq.i hu hbl hk (fun b hbm => by have := hb b hbm; omega), chain_b q bs u i k hq.v hq.i hu hbl hk]
    by_cases h : SetV q k (chD (nxt bs i) u)
    · rw [if_pos h, if_pos h]
      exact .inr ⟨hlt, _, _, rfl, rfl, _, _, rfl, rfl, hq.set hp (by omega) (by omega) (chD_len _ u) h, by simp; omega⟩
    · rw [if_neg h, if_neg h]
      exact .inl ⟨_, rfl, rfl, rfl, by simp⟩
  · simp only [spec_l14Store_o57_l1_b, impl_Pager_writeChain_oe4_l1_b]
    rw [if_neg (by omega), if_neg (by omega)]
    exact .inl ⟨_, rfl, rfl, rfl, hq⟩
end Go.Proofs.TM
/- The law of CreateHeader, on data. -/
namespace Go.Proofs.TM
open Go Go.Proofs
set_option linter.unusedVariables false
set_option linter.unusedSimpArgs false
set_option maxHeartbeats 1000000

/-- How many blocks a header takes. -/
def needH (h : DHdr) : Nat := ((encH h).length + 59) / 60
theorem need_wrap {l : Str} (hl : l.length ≤ 100000) : IntKind.i64.wrap (Int.tdiv (IntKind.i64.wrap (IntKind.i64.wrap ((l.length : Int) + 60) - 1)) 60) = (((l.length + 59) / 60 : Nat) : Int) := by
  rw [wrap_in (n := (l.length : Int) + 60) (by omega) (by omega), wrap_in (n := (l.length : Int) + 60 - 1) (by omega) (by omega), Int.tdiv_eq_ediv_of_nonneg (by omega), wrap_in (by omega) (by omega)]
  omega
theorem needH_in {h : DHdr} (hv : HdrV h) : 1 ≤ needH h ∧ needH h ≤ 100 := by have := encH_len hv; unfold needH; omega

/-- Both ways of laying a header into a pager of one's own. -/
theorem create_two (p : DPager) (h : DHdr) (hp : PagerV p) (hin : PagerIn p 1048576) (hv : HdrV h) :
    ∃ o o', spec_l14Create_o76 p h.1 h.2.1 h.2.2 = some o ∧ impl_Pager_createHeader_o76 p h.1 h.2.1 h.2.2 = some o' ∧ o.2.2 = o'.2.2 ∧ (o.2.2 = 0 → o = o' ∧ PagerIn o.1 1048576) := by
  have hl := encH_len hv
  have hn := needH_in hv
  have e1 : spec_l14Encode (h.1, h.2.1, h.2.2) = some (encH h) := l14Encode_out h hv
  have e2 : impl_Header_encode (h.1, h.2.1, h.2.2) = some (encH h) := encode_out h hv
  unfold spec_l14Create_o76 impl_Pager_createHeader_o76 spec_l14Need impl_chainLen
  rw [e1, e2, Option.bind_some, Option.bind_some, Option.bind_some, need_wrap (by omega), Option.bind_some, show (((encH h).length + 59) / 60 : Nat) = needH h from rfl]
  obtain ⟨g, g1, g2, g3⟩ := grow_two p (needH h) hp hin (by omega)
  unfold spec_l14Grow_ob7 impl_Pager_grow_o83
  rw [g1, g2]
  simp only [Option.bind_some]
  cases g with
  | inr r =>
    have hr : r.2.2 ≠ 0 := g3
    simp only [Sum.elim_inr, Option.bind_some, hr, not_false_eq_true, if_true]
    exact ⟨_, _, rfl, rfl, rfl, fun hh => absurd hh hr⟩
  | inl r =>
    obtain ⟨k1, k2, k3⟩ : r.2.length = needH h ∧ Like p r.1 ∧ GoodB p r.2 := g3
    obtain ⟨x, hx⟩ := get_at (l := r.2) (i := 0) (by omega)
    have hne : ¬ r.2 = [] := by intro hh; rw [hh] at k1; simp at k1; omega
    obtain ⟨s, s1, s2, s3⟩ := store_two p r.1 r.2 (encH h) hp k2 k3 (by omega) (by omega)
    simp only [Sum.elim_inl, Option.bind_some, not_true_eq_false, if_false]
    rw [if_pos ⟨by omega, by omega⟩, show ((0 : Int)).toNat = 0 from rfl, hx, Option.bind_some]
    unfold spec_l14Store_o57 impl_Pager_writeChain_oe4
    rw [e1, Option.bind_some, s1, s2]
    simp only [Option.bind_some]
    cases s with
    | inr t =>
      obtain ⟨t1, t2⟩ : t.2.1 = r.2 ∧ t.2.2 ≠ 0 := s3
      simp only [Sum.elim_inr, Option.bind_some, t1, fixLen_eq, if_true, t2, not_false_eq_true, hx, hne, and_self]
      exact ⟨_, _, rfl, rfl, rfl, fun hh => absurd hh t2⟩
    | inl t =>
      obtain ⟨t1, t2⟩ : t.2 = r.2 ∧ Like p t.1 := s3
      have hi : (0 : Int) ≤ 0 ∧ (0 : Int) < ((r.2.length : Nat) : Int) := ⟨by omega, by omega⟩
      simp only [Sum.elim_inl, Option.bind_some, t1, fixLen_eq, if_true, not_true_eq_false, if_false, hx, hne, not_false_eq_true, and_self, hi, show ((0 : Int)).toNat = 0 from rfl]
      exact ⟨_, _, rfl, rfl, rfl, fun _ => ⟨rfl, t2.i⟩⟩

open Classical in
theorem CreateHeader_two (p : DPager) (h : DHdr) (hin : PagerIn p 1048576) : ∃ o, spec_CreateHeader p h = some o ∧ impl_CreateHeader p h = some o ∧ PagerIn o.1 1048576 := by
  unfold spec_CreateHeader impl_CreateHeader
  simp only [l12Ok_out p hin, ValidPager_out p hin, l14Ok_out, ValidHeader_out, Option.bind_some, deq]
  by_cases hp : PagerV p
  case neg => rw [if_pos hp, if_pos hp]; exact ⟨_, rfl, rfl, noPg_in⟩
  rw [if_neg (Classical.not_not.2 hp), if_neg (Classical.not_not.2 hp)]
  by_cases hv : HdrV h
  case neg => rw [if_pos hv, if_pos hv]; exact ⟨_, rfl, rfl, noPg_in⟩
  rw [if_neg (Classical.not_not.2 hv), if_neg (Classical.not_not.2 hv)]
  unfold impl_Pager_making_CreateHeader_c1 impl_CreateHeader_c1_o3c
  rw [l12Own_out p hin, clone_out p hin, Option.bind_some, Option.bind_some]
  obtain ⟨o, o', h1, h2, h3, h4⟩ := create_two p h hp hin hv
  rw [h1, h2, Option.bind_some, Option.bind_some]
  by_cases hc : o.2.2 = 0
  · obtain ⟨rfl, h5⟩ := h4 hc
    simp only [hc, not_true_eq_false, if_false, Option.bind_some]
    exact ⟨_, rfl, rfl, h5⟩
  · rw [if_pos hc]
    rw [h3] at hc
    simp only [hc, not_false_eq_true, if_true, Option.bind_some, h3]
    exact ⟨_, rfl, rfl, noPg_in⟩

theorem FnExactCreateHeader_true (p : DPager) (a : DHdr) (h : Gd.ok p) (ha : Gd.ok a) : laws_FnExactCreateHeader p a = some true := by
  unfold laws_FnExactCreateHeader
  obtain ⟨r, hr, hle, hin⟩ := szPager_le p (pagerOk_of h)
  rw [hr, Option.bind_some]
  by_cases hneg : r < 0
  · rw [if_pos hneg]
  rw [if_neg hneg]
  have hin := hin (by omega)
  obtain ⟨r2, hr2, hl⟩ := szHeader_out a (msgsOk_of ha.2.2) r (by omega) hle
  rw [hr2, Option.bind_some]
  by_cases hneg2 : r2 < 0
  · rw [if_pos hneg2]
  rw [if_neg hneg2]
  have hl := hl (by omega)
  obtain ⟨o, hS, hI, hoin⟩ := CreateHeader_two p a hin
  obtain ⟨w, hw, w1, w2, w3, w4, w5, w6, wle⟩ := markPager_le p hin
  obtain ⟨m, hm, m1, m2⟩ := markHeader_out a hl w.2.2.2.2 (by omega) wle
  obtain ⟨u, hu, u1, u2, u3, u4, u5, u6⟩ := markPager_out _ hoin
  simp only [toPager_out p hin, toHeader_out a hl, Option.bind_some, hS, hI, eqPager_same _ hoin, eqPager_same p hin, eqHeader_same a hl, not_true_eq_false, if_false, hw, w1, w2, w3, w4, and_self, if_true, hm, m1, m2, hu, u1, u2, u3, u4, u5, u6]
end Go.Proofs.TM
