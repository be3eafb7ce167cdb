import Derived.Test.YtbhfiopdgapepaaGreatMA
import Derived.Test.YtbhfiopdgapepaaGreatMC
import Derived.Test.YtbhfiopdgapepaaGreatMB
/- Headers: which are valid. -/
namespace Go.Proofs.TM
open Go Go.Proofs
set_option linter.unusedVariables false
set_option linter.unusedSimpArgs false
set_option maxHeartbeats 1000000

abbrev DMsg := Int × Int × Str
abbrev DHdr := Int × Int × List DMsg
def MsgV (m : DMsg) : Prop := (1 ≤ m.1 ∧ m.1 ≤ 9) ∧ (0 ≤ m.2.1 ∧ m.2.1 ≤ 255) ∧ (m.2.2.length : Int) ≤ 200
def HdrV (h : DHdr) : Prop := (1 ≤ h.1 ∧ h.1 ≤ 3) ∧ (0 ≤ h.2.1 ∧ h.2.1 ≤ 1000) ∧ (h.2.2.length : Int) ≤ 24 ∧ ∀ m ∈ h.2.2, MsgV m
end Go.Proofs.TM
/- The bytes of numbers. -/
namespace Go.Proofs.TM
open Go Go.Proofs
set_option linter.unusedVariables false
set_option linter.unusedSimpArgs false
set_option maxHeartbeats 1000000

/-! ### Loops that build a list -/
theorem loop_build {β : Type} (n : Nat) (g : Nat → β) (f : List β × Int → Option ((List β × Int) ⊕ List β))
    (h1 : ∀ i : Nat, i < n → f ((List.range i).map g, (i : Int)) = some (.inl ((List.range (i + 1)).map g, (i : Int) + 1)))
    (h2 : f ((List.range n).map g, (n : Int)) = some (.inr ((List.range n).map g))) : loopO f ([], 0) = some ((List.range n).map g) := by
  refine loop_some n (fun i s => s = ((List.range i).map g, (i : Int))) (fun i s hi hs => ?_) n 0 _ (by omega) rfl
  subst hs
  by_cases hn : i < n
  · exact .inr ⟨hn, _, h1 i hn, by simp⟩
  · have : i = n := by omega
    subst this; exact .inl h2

theorem loop_fill {β : Type} (n : Nat) (g : Nat → β) (f : List β × Int → Option ((List β × Int) ⊕ List β)) (m : List β) (hm : m.length = n)
    (h1 : ∀ (m : List β) (i : Nat), i < n → m.length = n → f (m, (i : Int)) = some (.inl (m.set i (g i), (i : Int) + 1)))
    (h2 : ∀ m : List β, m.length = n → f (m, (n : Int)) = some (.inr m)) : loopO f (m, 0) = some ((List.range n).map g) := by
  refine loop_some n (fun i s => s.2 = (i : Int) ∧ s.1.length = n ∧ ∀ j, j < i → s.1[j]? = some (g j)) (fun i s hi hs => ?_) n 0 _ (by omega) ⟨rfl, hm, fun j hj => by omega⟩
  obtain ⟨m, k⟩ := s
  obtain ⟨rfl, hml, hall⟩ := hs
  simp only at hml hall ⊢
  by_cases hn : i < n
  · refine .inr ⟨hn, _, h1 m i hn hml, by simp, by simp [hml], fun j hj => ?_⟩
    by_cases hji : j = i
    · subst hji; simp only; rw [List.getElem?_set_self (by omega)]
    · simp only; rw [List.getElem?_set_ne (by omega)]; exact hall j (by omega)
  · have : i = n := by omega
    subst this
    refine .inl ?_
    rw [h2 m hml]
    congr 2
    apply List.ext_getElem?
    intro j
    by_cases hj : j < i
    · rw [hall j hj]; simp [hj]
    · rw [List.getElem?_eq_none (by omega), List.getElem?_eq_none (by simp; omega)]

/-! ### Bytes of a number -/
theorem u8_wrap_eq (y : Int) : IntKind.u8.wrap y = y % 256 := by simp [IntKind.wrap, IntKind.bits, IntKind.signed]
theorem u64_wrap_in {y : Int} (h : 0 ≤ y) (h' : y < 18446744073709551616) : IntKind.u64.wrap y = y := by simp [IntKind.wrap, IntKind.bits, IntKind.signed]; omega
theorem and255 (y : Int) (h : -9223372036854775808 ≤ y) (h' : y ≤ 9223372036854775807) : bitV .and .i64 y 255 = y % 256 := by
  have e : ((BitVec.ofInt 64 y &&& BitVec.ofInt 64 255).toNat : Int) = y % 256 := by
    rw [BitVec.toNat_and, BitVec.toNat_ofInt, BitVec.toNat_ofInt]
    have : ((255 : Int) % ((2 ^ 64 : Nat) : Int)).toNat = 2 ^ 8 - 1 := by decide
    rw [this, Nat.and_two_pow_sub_one_eq_mod]
    omega
  show (bitsI .and .i64 y 255).getD 0 = _
  show IntKind.i64.wrap ((BitVec.ofInt 64 y &&& BitVec.ofInt 64 255).toNat : Int) = _
  rw [e]
  exact wrap_in (by omega) (by omega)

/-- The byte of a number at a place. -/
def byB (n : Int) (j : Nat) : Bt := ⟨UInt8.ofNat ((shrV .i64 n (8 * (j : Int))) % 256).toNat⟩
/-- A number's lowest bytes, the least one first. -/
def leB (n : Int) (k : Nat) : Str := (List.range k).map fun j => (byB n j).v
@[simp] theorem leB_length (n : Int) (k : Nat) : (leB n k).length = k := by simp [leB]
theorem leB_map (n : Int) (k : Nat) : ((List.range k).map (byB n)).map Bt.v = leB n k := by simp [leB, Function.comp_def]

theorem shr_in {n : Int} (c : Int) (h : -9223372036854775808 ≤ n) (h' : n ≤ 9223372036854775807) : -9223372036854775808 ≤ shrV .i64 n c ∧ shrV .i64 n c ≤ 9223372036854775807 := by
  unfold shrV
  rw [Int.fdiv_eq_ediv_of_nonneg _ (by exact Int.pow_nonneg (by omega))]
  have hp : (0 : Int) < 2 ^ (min c.toNat (IntKind.bits .i64)) := Int.pow_pos (by omega)
  generalize (2 : Int) ^ (min c.toNat (IntKind.bits .i64)) = p at hp
  constructor
  · rcases Int.lt_or_le n 0 with h0 | h0
    · exact Int.le_ediv_of_mul_le hp (by omega)
    · exact Int.le_trans (by omega) (Int.ediv_nonneg h0 (by omega))
  · rcases Int.lt_or_le n 0 with h0 | h0
    · have := Int.ediv_neg_of_neg_of_pos h0 hp
      omega
    · exact Int.le_trans (Int.ediv_le_self _ h0) h'

theorem putBytes_out (n : Int) (k : Nat) (hk : k ≤ 8) : impl_putBytes n k = some (leB n k) := by
  unfold impl_putBytes impl_putBytes_l1
  rw [mkL_ok 1 _ _ (by unfold maxRow; omega) (by unfold maxRow; omega), Option.bind_some]
  rw [loop_fill k (byB n) (fun s => impl_putBytes_l1_b n _ s.1 s.2) _ (by simp) (fun m i hi hm => ?_) (fun m hm => ?_)]
  · rw [Option.bind_some, leB_map]
  · simp only [impl_putBytes_l1_b]
    obtain ⟨x, hx⟩ := get_at (l := m) (by omega : i < m.length)
    rw [List.length_replicate, if_pos (by omega), wrap_in (n := 8 * (i : Int)) (by omega) (by omega), if_neg (by omega), if_pos (by omega), Int.toNat_natCast, hx, Option.bind_some, w1 (by omega), u8_wrap_eq]
    rfl
  · simp only [impl_putBytes_l1_b]
    rw [List.length_replicate, if_neg (by omega)]

end Go.Proofs.TM
/- The binary form of headers. -/
namespace Go.Proofs.TM
open Go Go.Proofs
set_option linter.unusedVariables false
set_option linter.unusedSimpArgs false
set_option maxHeartbeats 1000000

theorem l02Byte_out (n : Int) : spec_l02Byte n = some (leB n 1) := by
  unfold spec_l02Byte lit leB byB
  rw [u8_wrap_eq]
  have : shrV .i64 n (8 * ((0 : Nat) : Int)) = n := by
    unfold shrV
    rw [Int.fdiv_eq_ediv_of_nonneg _ (by exact Int.pow_nonneg (by omega))]
    simp
  simp only [List.range_succ, List.range_zero, List.nil_append, List.map_cons, List.map_nil, this]

theorem leB_one (y : Int) : leB y 1 = [(byB y 0).v] := by simp [leB, List.range_succ]
theorem leB_succ (n : Int) (k : Nat) : leB n (k + 1) = leB n k ++ [(byB n k).v] := by simp [leB, List.range_succ]
theorem shr_zero (n : Int) : shrV .i64 n (8 * ((0 : Nat) : Int)) = n := by
  unfold shrV
  rw [Int.fdiv_eq_ediv_of_nonneg _ (by exact Int.pow_nonneg (by omega))]
  simp
theorem l02Put_out (n : Int) (k : Nat) (hk : k ≤ 8) (h : -9223372036854775808 ≤ n) (h' : n ≤ 9223372036854775807) : spec_l02Put n k false = some (leB n k) := by
  unfold spec_l02Put spec_l02Put_l1
  rw [loop_some (r := leB n k) k (fun i s => s = (leB n i, (i : Int))) (fun i s hi hs => by
    subst hs
    simp only [spec_l02Put_l1_b]
    by_cases hlt : i < k
    · refine .inr ⟨hlt, _, ?_, rfl⟩
      have hs := shr_in (8 * (i : Int)) h h'
      rw [if_pos (by omega), wrap_in (n := 8 * (i : Int)) (by omega) (by omega), u64_wrap_in (by omega) (by omega), if_neg (by omega), and255 _ hs.1 hs.2, l02Byte_out, Option.bind_some, if_neg (by simp), if_pos (by simp; omega), w1 (by omega), leB_succ n i, leB_one]
      congr 4
      unfold byB
      rw [shr_zero, show (shrV .i64 n (8 * (i : Int))) % 256 % 256 = (shrV .i64 n (8 * (i : Int))) % 256 by omega]
    · have : i = k := by omega
      subst this
      rw [if_neg (by omega)]
      exact .inl rfl) k 0 (([] : Str), (0 : Int)) (by omega) (by simp [leB]), Option.bind_some]

def msgB (m : DMsg) : Str := leB m.1 1 ++ leB m.2.1 1 ++ leB m.2.2.length 1 ++ m.2.2
def hdrB (h : DHdr) : Str := leB h.1 1 ++ leB h.2.1 2 ++ leB h.2.2.length 1
def encL (l : List DMsg) : Str := (l.map msgB).flatten
def encH (h : DHdr) : Str := hdrB h ++ encL h.2.2
theorem encL_len (l : List DMsg) (h : ∀ m ∈ l, MsgV m) : (encL l).length ≤ 203 * l.length := by
  induction l with
  | nil => simp [encL]
  | cons x l ih =>
    have h1 := (h x (by simp)).2.2
    have h2 := ih (fun m hm => h m (by simp [hm]))
    simp only [encL, List.map_cons, List.flatten_cons, List.length_append, msgB, leB_length, List.length_cons] at h2 ⊢
    omega
theorem encH_len {h : DHdr} (hv : HdrV h) : 4 ≤ (encH h).length ∧ (encH h).length ≤ 4876 := by
  have h1 := encL_len h.2.2 hv.2.2.2
  have h2 := hv.2.2.1
  simp only [encH, hdrB, List.length_append, leB_length]
  omega
theorem encL_take (l : List DMsg) {i : Nat} {x : DMsg} (hx : l[i]? = some x) : encL (l.take (i + 1)) = encL (l.take i) ++ msgB x := by
  unfold encL
  rw [List.take_add_one, hx]
  simp

theorem l14Encode_out (h : DHdr) (hv : HdrV h) : spec_l14Encode h = some (encH h) := by
  obtain ⟨h1, h2, h3, h4⟩ := hv
  unfold spec_l14Encode spec_l14Encode_l1
  rw [l02Byte_out, Option.bind_some, show ((2 : Int)) = ((2 : Nat) : Int) from rfl, l02Put_out h.2.1 2 (by omega) (by omega) (by omega), Option.bind_some, if_pos (by simp), l02Byte_out, Option.bind_some, if_pos (by simp),
    loop_some (r := encH h) h.2.2.length (fun i s => s = (hdrB h ++ encL (h.2.2.take i), (i : Int))) (fun i s hi hs => by
      subst hs
      simp only [spec_l14Encode_l1_b]
      by_cases hlt : i < h.2.2.length
      · obtain ⟨x, hx⟩ := get_at hlt
        have hm := h4 x (List.mem_of_getElem? hx)
        have hl := encL_len (h.2.2.take i) (fun m hm => h4 m (List.mem_of_mem_take hm))
        have hl2 : (h.2.2.take i).length ≤ 24 := by rw [List.length_take]; omega
        have hm3 := hm.2.2
        refine .inr ⟨hlt, _, ?_, rfl⟩
        rw [if_pos (by omega), if_pos (by omega), Int.toNat_natCast, hx, Option.bind_some, l02Byte_out, Option.bind_some, l02Byte_out, Option.bind_some, if_pos (by simp), l02Byte_out, Option.bind_some, if_pos (by simp), if_pos (by simp only [List.length_append, leB_length]; omega), if_pos (by simp only [List.length_append, leB_length, hdrB]; omega), w1 (by omega), encL_take _ hx, List.append_assoc (hdrB h)]
        rfl
      · have : i = h.2.2.length := by omega
        subst this
        rw [if_neg (by omega), List.take_length]
        exact .inl rfl) h.2.2.length 0 _ (by omega) (by simp [encL, hdrB]), Option.bind_some]

theorem encode_out (h : DHdr) (hv : HdrV h) : impl_Header_encode h = some (encH h) := by
  obtain ⟨h1, h2, h3, h4⟩ := hv
  have k1 : ∀ n : Int, impl_putBytes n 1 = some (leB n 1) := fun n => putBytes_out n 1 (by omega)
  have k2 : ∀ n : Int, impl_putBytes n 2 = some (leB n 2) := fun n => putBytes_out n 2 (by omega)
  unfold impl_Header_encode impl_Header_encode_l1
  rw [k1, Option.bind_some, k2, Option.bind_some, if_pos (by simp), k1, Option.bind_some, if_pos (by simp)]
  have hw : ∀ (a b : Str), a.length + b.length ≤ 1000000 → strings_Builder_WriteString_o0d (a.map Bt.mk) b = some ((a ++ b).map Bt.mk, (b.length : Int)) := fun a b hab => by
    unfold strings_Builder_WriteString_o0d appL
    rw [if_pos (by simp only [List.length_map]; unfold maxRow; omega), Option.bind_some, List.map_append]
  rw [show nilB = (([] : Str).map Bt.mk) from rfl, hw _ _ (by simp), Option.bind_some,
    loop_some (r := (encH h).map Bt.mk) h.2.2.length (fun i s => s = ((hdrB h ++ encL (h.2.2.take i)).map Bt.mk, (i : Int))) (fun i s hi hs => by
      subst hs
      simp only [impl_Header_encode_l1_b]
      by_cases hlt : i < h.2.2.length
      · obtain ⟨x, hx⟩ := get_at hlt
        have hm := h4 x (List.mem_of_getElem? hx)
        have hl := encL_len (h.2.2.take i) (fun m hm => h4 m (List.mem_of_mem_take hm))
        have hl2 : (h.2.2.take i).length ≤ 24 := by rw [List.length_take]; omega
        have hm3 := hm.2.2
        refine .inr ⟨hlt, _, ?_, rfl⟩
        rw [if_pos (by omega), if_pos (by omega), Int.toNat_natCast, hx, Option.bind_some, k1, Option.bind_some, k1, Option.bind_some, if_pos (by simp), k1, Option.bind_some, if_pos (by simp), if_pos (by simp only [List.length_append, leB_length]; omega), hw _ _ (by simp only [List.length_append, leB_length, hdrB]; omega), Option.bind_some, w1 (by omega), encL_take _ hx, List.append_assoc (hdrB h)]
        rfl
      · have : i = h.2.2.length := by omega
        subst this
        rw [if_neg (by omega), List.take_length]
        exact .inl rfl) h.2.2.length 0 _ (by omega) (by simp [encL, hdrB]), Option.bind_some]
  have hl := encH_len ⟨h1, h2, h3, h4⟩
  unfold strings_Builder_String_of5 strB
  rw [if_pos (by simp only [List.length_map]; unfold maxRow; omega), Option.bind_some, map_v]; rfl
end Go.Proofs.TM
/- Chains of blocks: grown, and written. -/
namespace Go.Proofs.TM
open Go Go.Proofs
set_option linter.unusedVariables false
set_option linter.unusedSimpArgs false
set_option maxHeartbeats 1000000

/-- Two loops side by side come to one answer. -/
theorem loop_two {σ τ ρ : Type} {f : σ → Option (σ ⊕ ρ)} {g : τ → Option (τ ⊕ ρ)} (P : ρ → Prop) (n : Nat) (I : Nat → σ → τ → Prop)
    (h : ∀ i s t, i ≤ n → I i s t → (∃ r, f s = some (.inr r) ∧ g t = some (.inr r) ∧ P r) ∨ (i < n ∧ ∃ s' t', f s = some (.inl s') ∧ g t = some (.inl t') ∧ I (i + 1) s' t')) :
    ∀ k i s t, k + i = n → I i s t → ∃ r, loopO f s = some r ∧ loopO g t = some r ∧ P r := by
  intro k
  induction k with
  | zero =>
    intro i s t hi hs
    rcases h i s t (by omega) hs with ⟨r, h1, h2, hp⟩ | ⟨h1, _⟩
    · exact ⟨r, by rw [loopO_unfold, h1]; rfl, by rw [loopO_unfold, h2]; rfl, hp⟩
    · omega
  | succ k ih =>
    intro i s t hi hs
    rcases h i s t (by omega) hs with ⟨r, h1, h2, hp⟩ | ⟨h1, s', t', h2, h3, h4⟩
    · exact ⟨r, by rw [loopO_unfold, h1]; rfl, by rw [loopO_unfold, h2]; rfl, hp⟩
    · obtain ⟨r, hr, hr2, hp⟩ := ih (i + 1) s' t' (by omega) h4
      exact ⟨r, by rw [loopO_unfold, h2]; exact hr, by rw [loopO_unfold, h3]; exact hr2, hp⟩

/-- A pager with the disk and the superblock of another. -/
structure Like (p q : DPager) : Prop where
  v : PagerV q
  i : PagerIn q 1048576
  d : q.1 = p.1
  s : q.2.1 = p.2.1
theorem Like.set {p q : DPager} (h : Like p q) (hp : PagerV p) {k : Int} {d : Str} (h0 : areaK p ≤ k) (h1 : k < (p.1.1.length : Int)) (hd : d.length = 64) (hs : SetV q k d) : Like p (setP q k d) :=
  have hl : p.2.1.1 = (p.1.1.length : Int) := hp.2.2.2.1
  ⟨setP_valid q k d h.v (by rw [h.s]; exact h0) (by rw [h.s]; omega) hd hs, setP_in q k d h.v h.i, h.d, h.s⟩
theorem Like.area {p q : DPager} (h : Like p q) : areaK q = areaK p := by unfold areaK; rw [h.s]
theorem Like.len {p q : DPager} (h : Like p q) : (q.1.1.length : Int) = (p.1.1.length : Int) := by rw [h.d]

def GoodB (p : DPager) (bs : List Int) : Prop := ∀ b ∈ bs, areaK p < b ∧ b < (p.1.1.length : Int)
theorem outA_like {p q : DPager} (hp : PagerV p) (h : Like p q) : Like p (outA q 1).1 ∧ ((outA q 1).2.2 = 0 → areaK p < (outA q 1).2.1 ∧ (outA q 1).2.1 < (p.1.1.length : Int)) := by
  unfold outA
  by_cases hz : (bestP (runsP q) 1).2 = 0
  · rw [if_pos hz]; exact ⟨h, fun hh => by simp [outPg2] at hh⟩
  rw [if_neg hz]
  have hb := best_bd h.v hz
  rw [h.area, h.len] at hb
  by_cases hs : AllV q 1
  · rw [if_pos hs]
    have ha := area_in hp
    refine ⟨?_, fun _ => ⟨hb.1, by have := hb.2; show (bestP (runsP q) 1).1 < _; omega⟩⟩
    have hsv : SetV q (areaK q) (markP (areaP q) (bestP (runsP q) 1).1 1 true) := hs
    exact h.set hp (by rw [h.area]; omega) (by rw [h.area]; omega) (by rw [markP_len, areaP_len h.v]) hsv
  · rw [if_neg hs]; exact ⟨h, fun hh => by simp [outPg2] at hh⟩

/-- What grows: the pager and its new blocks, or why not. -/
abbrev GrowR := (DPager × List Int) ⊕ (DPager × List Int × Int)
def GrowOk (p : DPager) (n : Nat) : GrowR → Prop
  | .inl r => r.2.length = n ∧ Like p r.1 ∧ GoodB p r.2
  | .inr r => r.2.2 ≠ 0
theorem happ8 (l : List Int) (x : Int) (h : l.length ≤ 100000) : appL 8 l (lit [x]) = some (l ++ [x]) := by unfold appL lit; rw [if_pos (by simp [maxRow]; omega)]
theorem grow_two (p : DPager) (n : Nat) (hp : PagerV p) (hin : PagerIn p 1048576) (hn : n ≤ 1000) :
    ∃ r, spec_l14Grow_ob7_l1 n (p, []) = some r ∧ impl_Pager_grow_o83_l1 n (p, []) = some r ∧ GrowOk p n r := by
  unfold spec_l14Grow_ob7_l1 impl_Pager_grow_o83_l1
  refine loop_two (GrowOk p n) n (fun i s t => t = s ∧ s.2.length = i ∧ Like p s.1 ∧ GoodB p s.2) (fun i s t hi hs => ?_) n 0 _ _ (by omega) ⟨rfl, rfl, ⟨hp, hin, rfl, rfl⟩, fun b hb => by simp at hb⟩
  obtain ⟨q, bs⟩ := s
  obtain ⟨rfl, hl, hq, hb⟩ := hs
  simp only at hl hq hb
  simp only [spec_l14Grow_ob7_l1_b, impl_Pager_grow_o83_l1_b]
  by_cases hlt : i < n
  · obtain ⟨a1, a2⟩ := outA_like hp hq
    rw [if_pos (by omega), if_pos (by omega), l13Allocate_out q 1 hq.v hq.i (by omega) (by omega), allocate_out q 1 hq.v hq.i (by omega) (by omega), Option.bind_some]
    by_cases hc : (outA q 1).2.2 = 0
    · rw [if_neg (by simpa using hc), happ8 _ _ (by omega), Option.bind_some]
      refine .inr ⟨hlt, _, _, rfl, rfl, rfl, by simp [hl], a1, fun b hbm => ?_⟩
      rcases List.mem_append.1 hbm with h | h
      · exact hb b h
      · rw [List.mem_singleton.1 h]; exact a2 hc
    · rw [if_pos hc]
      exact .inl ⟨_, rfl, rfl, hc⟩
  · rw [if_neg (by omega), if_neg (by omega)]
    exact .inl ⟨_, rfl, rfl, by simp only [GrowOk]; exact ⟨by omega, hq, hb⟩⟩

/-- A block of a chain: the next one, how much it holds, the bytes. -/
def chB (next : Int) (s : Str) : Str := leB next 2 ++ leB (min 60 (s.length : Int)) 2 ++ s.take 60
def chD (next : Int) (s : Str) : Str := chB next s ++ List.replicate (64 - (chB next s).length) 0
theorem chB_len (next : Int) (s : Str) : (chB next s).length ≤ 64 := by simp [chB]; omega
theorem chD_len (next : Int) (s : Str) : (chD next s).length = 64 := by have := chB_len next s; simp [chD]; omega
theorem min60 (s : Str) : ∃ m : Nat, (min 60 (s.length : Int)) = (m : Int) ∧ m ≤ s.length ∧ s.take m = s.take 60 ∧ s.drop m = s.drop 60 := by
  by_cases h : s.length ≤ 60
  · exact ⟨s.length, by omega, Nat.le_refl _, by rw [List.take_of_length_le (Nat.le_refl _), List.take_of_length_le h], by rw [List.drop_of_length_le (Nat.le_refl _), List.drop_of_length_le h]⟩
  · exact ⟨60, by omega, by omega, rfl, rfl⟩

open Classical in
theorem chain_step (q : DPager) (bs : List Int) (s : Str) (a b : Int) (k next : Int) (hv : PagerV q) (hq : PagerIn q 1048576) (hs : s.length ≤ 100000) :
    impl_Pager_writeChain_oe4_p2 q bs s k next a b = some (if SetV q k (chD next s) then .inr (setP q k (chD next s), bs, s.drop 60, a, b) else .inl (q, bs, 5)) := by
  obtain ⟨m, m1, m2, m3, m4⟩ := min60 s
  unfold impl_Pager_writeChain_oe4_p2
  have k1 : impl_putBytes next 2 = some (leB next 2) := putBytes_out next 2 (by omega)
  have k2 : impl_putBytes (m : Int) 2 = some (leB m 2) := putBytes_out m 2 (by omega)
  have hc : leB next 2 ++ leB (m : Int) 2 ++ s.take m = chB next s := by unfold chB; rw [m1, m3]
  have k3 : impl_padded (chB next s) 64 = some (chD next s) := padded_out (chB next s) 64 (chB_len next s) (by omega)
  have hst := congrArg List.length m3
  simp only [List.length_take] at hst
  rw [k1, Option.bind_some, m1, k2, Option.bind_some, if_pos (by simp), subL_to s m m2, Option.bind_some, if_pos (by simp only [List.length_append, leB_length, List.length_take]; omega), hc, k3, Option.bind_some, set_out q k _ hv hq, Option.bind_some]
  by_cases h : SetV q k (chD next s)
  · rw [if_pos h, if_pos h, if_neg (by simp), subL_from s m m2, Option.bind_some, m4]
  · rw [if_neg h, if_neg h, if_pos (by simp)]

/-- The block behind the one at a place. -/
def nxt (bs : List Int) (i : Nat) : Int := (bs[i + 1]?).getD 0
open Classical in
theorem chain_b (q : DPager) (bs : List Int) (s : Str) (i : Nat) (k : Int) (hv : PagerV q) (hq : PagerIn q 1048576) (hs : s.length ≤ 100000) (hl : bs.length ≤ 1000) (hk : bs[i]? = some k) :
    impl_Pager_writeChain_oe4_l1_b q bs s ((bs.length : Nat) : Int) i = some (if SetV q k (chD (nxt bs i) s) then .inl (setP q k (chD (nxt bs i) s), bs, s.drop 60, ((bs.length : Nat) : Int), (i : Int) + 1) else .inr (.inr (q, bs, 5))) := by
  have hi := (List.getElem?_eq_some_iff.1 hk).1
  unfold impl_Pager_writeChain_oe4_l1_b nxt
  rw [if_pos (by omega), if_pos (by omega), Int.toNat_natCast, hk, Option.bind_some, w1 (by omega)]
  by_cases hn : i + 1 < bs.length
  · obtain ⟨x, hx⟩ := get_at hn
    rw [if_pos (by omega), if_pos (by omega), show ((i : Int) + 1).toNat = i + 1 by omega, hx, Option.bind_some, chain_step q bs s _ _ k x hv hq hs, Option.bind_some, Option.getD_some]
    by_cases h : SetV q k (chD x s)
    · rw [if_pos h, if_pos h]; simp only [Sum.elim_inr]; rw [w1 (by omega)]
    · rw [if_neg h, if_neg h]; rfl
  · rw [if_neg (by omega), chain_step q bs s _ _ k 0 hv hq hs, Option.bind_some, List.getElem?_eq_none (by omega), Option.getD_none]
    by_cases h : SetV q k (chD 0 s)
    · rw [if_pos h, if_pos h]; simp only [Sum.elim_inr]; rw [w1 (by omega)]
    · rw [if_neg h, if_neg h]; rfl

end Go.Proofs.TM
/- Chains of blocks, written by the reference, the messages in memory of their own. -/
namespace Go.Proofs.TM
open Go Go.Proofs
set_option linter.unusedVariables false
set_option linter.unusedSimpArgs false
set_option maxHeartbeats 1000000

open Classical in
theorem store_step (q : DPager) (bs : List Int) (ms : List DMsg) (s : Str) (i : Nat) (k next : Int) (hq : PagerIn q 1048576) (hs : s.length ≤ 100000) (hk : bs[i]? = some k) (h0 : -9223372036854775808 ≤ next) (h1 : next ≤ 9223372036854775807) :
    spec_l14Store_od0_p2 q bs ms s i next = some (if SetV q k (chD next s) then .inr (setP q k (chD next s), bs, ms, s.drop 60, (i : Int)) else .inl (q, bs, ms, 5)) := by
  have hi := (List.getElem?_eq_some_iff.1 hk).1
  obtain ⟨m, m1, m2, m3, m4⟩ := min60 s
  unfold spec_l14Store_od0_p2
  have hmin : spec_l00Min 60 (s.length : Int) = some (m : Int) := by
    unfold spec_l00Min
    by_cases h : (60 : Int) < s.length
    · rw [if_pos h]; congr 1; omega
    · rw [if_neg h]; congr 1; omega
  have k1 : spec_l02Put next 2 false = some (leB next 2) := l02Put_out next 2 (by omega) h0 h1
  have k2 : spec_l02Put (m : Int) 2 false = some (leB m 2) := l02Put_out m 2 (by omega) (by omega) (by omega)
  have hc : leB next 2 ++ leB (m : Int) 2 ++ s.take m = chB next s := by unfold chB; rw [m1, m3]
  have k3 : spec_l01Pad (chB next s) 64 = some (chD next s) := l01Pad_out (chB next s) 64 (chB_len next s) (by omega)
  have hst := congrArg List.length m3
  simp only [List.length_take] at hst
  rw [hmin, Option.bind_some, k1, Option.bind_some, k2, Option.bind_some, if_pos (by simp), subL_to s m m2, Option.bind_some, if_pos (by simp only [List.length_append, leB_length, List.length_take]; omega), subL_from s m m2, Option.bind_some, if_pos (by omega), Int.toNat_natCast, hk, Option.bind_some, hc, k3, Option.bind_some, l12Set_out q k _ hq, Option.bind_some, m4]
  by_cases h : SetV q k (chD next s)
  · rw [if_pos h, if_pos h]; rfl
  · rw [if_neg h, if_neg h]; rfl

open Classical in
theorem store_b (q : DPager) (bs : List Int) (ms : List DMsg) (s : Str) (i : Nat) (k : Int) (hq : PagerIn q 1048576) (hs : s.length ≤ 100000) (hl : bs.length ≤ 1000) (hk : bs[i]? = some k) (hb : ∀ b ∈ bs, 0 ≤ b ∧ b ≤ 1000) :
    spec_l14Store_od0_l1_b q bs ms s i = some (if SetV q k (chD (nxt bs i) s) then .inl (setP q k (chD (nxt bs i) s), bs, ms, s.drop 60, (i : Int) + 1) else .inr (.inr (q, bs, ms, 5))) := by
  have hi := (List.getElem?_eq_some_iff.1 hk).1
  unfold spec_l14Store_od0_l1_b nxt
  rw [if_pos (by omega), w1 (by omega)]
  by_cases hn : i + 1 < bs.length
  · obtain ⟨x, hx⟩ := get_at hn
    have hxb := hb x (List.mem_of_getElem? hx)
    rw [if_pos (by omega), if_pos (by omega), show ((i : Int) + 1).toNat = i + 1 by omega, hx, Option.bind_some, store_step q bs ms s i k x hq hs hk (by omega) (by omega), Option.bind_some, Option.getD_some]
    by_cases h : SetV q k (chD x s)
    · rw [if_pos h, if_pos h]; simp only [Sum.elim_inr]; rw [w1 (by omega)]
    · rw [if_neg h, if_neg h]; rfl
  · rw [if_neg (by omega), store_step q bs ms s i k 0 hq hs hk (by omega) (by omega), Option.bind_some, List.getElem?_eq_none (by omega), Option.getD_none]
    by_cases h : SetV q k (chD 0 s)
    · rw [if_pos h, if_pos h]; simp only [Sum.elim_inr]; rw [w1 (by omega)]
    · rw [if_neg h, if_neg h]; rfl
/-- Two loops side by side come to answers that belong together. -/
theorem loop_rel {σ τ ρ ρ' : Type} {f : σ → Option (σ ⊕ ρ)} {g : τ → Option (τ ⊕ ρ')} (P : ρ → ρ' → Prop) (n : Nat) (I : Nat → σ → τ → Prop)
    (h : ∀ i s t, i ≤ n → I i s t → (∃ r r', f s = some (.inr r) ∧ g t = some (.inr r') ∧ P r r') ∨ (i < n ∧ ∃ s' t', f s = some (.inl s') ∧ g t = some (.inl t') ∧ I (i + 1) s' t')) :
    ∀ k i s t, k + i = n → I i s t → ∃ r r', loopO f s = some r ∧ loopO g t = some r' ∧ P r r' := by
  intro k
  induction k with
  | zero =>
    intro i s t hi hs
    rcases h i s t (by omega) hs with ⟨r, r', h1, h2, hp⟩ | ⟨h1, _⟩
    · exact ⟨r, r', by rw [loopO_unfold, h1]; rfl, by rw [loopO_unfold, h2]; rfl, hp⟩
    · omega
  | succ k ih =>
    intro i s t hi hs
    rcases h i s t (by omega) hs with ⟨r, r', h1, h2, hp⟩ | ⟨h1, s', t', h2, h3, h4⟩
    · exact ⟨r, r', by rw [loopO_unfold, h1]; rfl, by rw [loopO_unfold, h2]; rfl, hp⟩
    · obtain ⟨r, r', hr, hr2, hp⟩ := ih (i + 1) s' t' (by omega) h4
      exact ⟨r, r', by rw [loopO_unfold, h2]; exact hr, by rw [loopO_unfold, h3]; exact hr2, hp⟩

abbrev StoreR := (DPager × List Int) ⊕ (DPager × List Int × Int)
abbrev StoreM := (DPager × List Int × List DMsg) ⊕ (DPager × List Int × List DMsg × Int)
def StoreOk (p : DPager) (bs : List Int) (ms : List DMsg) : StoreM → StoreR → Prop
  | .inl a, .inl b => a = (b.1, bs, ms) ∧ b.2 = bs ∧ Like p b.1
  | .inr a, .inr b => a = (b.1, bs, ms, b.2.2) ∧ b.2.1 = bs ∧ b.2.2 ≠ 0
  | _, _ => False
theorem store_two (p q0 : DPager) (bs : List Int) (ms : List DMsg) (s0 : Str) (hp : PagerV p) (hq0 : Like p q0) (hb : GoodB p bs) (hs0 : s0.length ≤ 100000) (hbl : bs.length ≤ 1000) :
    ∃ r r', spec_l14Store_od0_l1 (q0, bs, ms, s0, 0) = some r ∧ impl_Pager_writeChain_oe4_l1 (q0, bs, s0, ((bs.length : Nat) : Int), 0) = some r' ∧ StoreOk p bs ms r r' := by
  unfold spec_l14Store_od0_l1 impl_Pager_writeChain_oe4_l1
  have ha := area_in hp
  refine loop_rel (StoreOk p bs ms) bs.length (fun i s t => ∃ q u, s = (q, bs, ms, u, (i : Int)) ∧ t = (q, bs, u, ((bs.length : Nat) : Int), (i : Int)) ∧ Like p q ∧ u.length ≤ 100000) (fun i s t hi hs => ?_) bs.length 0 _ _ (by omega) ⟨q0, s0, rfl, rfl, hq0, hs0⟩
  obtain ⟨q, u, rfl, rfl, hq, hu⟩ := hs
  by_cases hlt : i < bs.length
  · obtain ⟨k, hk⟩ := get_at hlt
    have hkb := hb k (List.mem_of_getElem? hk)
    simp only [store_b q bs ms u i k hq.i hu hbl hk (fun b hbm => by have := hb b hbm; omega), chain_b q bs u i k hq.v hq.i hu hbl hk]
    by_cases h : SetV q k (chD (nxt bs i) u)
    · rw [if_pos h, if_pos h]
      exact .inr ⟨hlt, _, _, rfl, rfl, _, _, rfl, rfl, hq.set hp (by omega) (by omega) (chD_len _ u) h, by simp; omega⟩
    · rw [if_neg h, if_neg h]
      exact .inl ⟨_, _, rfl, rfl, rfl, rfl, by simp⟩
  · simp only [spec_l14Store_od0_l1_b, impl_Pager_writeChain_oe4_l1_b]
    rw [if_neg (by omega), if_neg (by omega)]
    exact .inl ⟨_, _, rfl, rfl, rfl, rfl, hq⟩
end Go.Proofs.TM
/- How many blocks a header takes. -/
namespace Go.Proofs.TM
open Go Go.Proofs
set_option linter.unusedVariables false
set_option linter.unusedSimpArgs false
set_option maxHeartbeats 1000000

/-- How many blocks a header takes. -/
def needH (h : DHdr) : Nat := ((encH h).length + 59) / 60
theorem need_wrap {l : Str} (hl : l.length ≤ 100000) : IntKind.i64.wrap (Int.tdiv (IntKind.i64.wrap (IntKind.i64.wrap ((l.length : Int) + 60) - 1)) 60) = (((l.length + 59) / 60 : Nat) : Int) := by
  rw [wrap_in (n := (l.length : Int) + 60) (by omega) (by omega), wrap_in (n := (l.length : Int) + 60 - 1) (by omega) (by omega), Int.tdiv_eq_ediv_of_nonneg (by omega), wrap_in (by omega) (by omega)]
  omega
theorem needH_in {h : DHdr} (hv : HdrV h) : 1 ≤ needH h ∧ needH h ≤ 100 := by have := encH_len hv; unfold needH; omega
end Go.Proofs.TM
/- The bytes of numbers, by the reference. -/
namespace Go.Proofs.TM
open Go Go.Proofs
set_option linter.unusedVariables false
set_option linter.unusedSimpArgs false
set_option maxHeartbeats 1000000

theorem l01Bytes_out (n : Int) (k : Nat) (hk : k ≤ 8) (h : -9223372036854775808 ≤ n) (h' : n ≤ 9223372036854775807) : spec_l01Bytes n k = some (leB n k) := by
  unfold spec_l01Bytes spec_l01Bytes_l1
  rw [loop_build k (byB n) (fun s => spec_l01Bytes_l1_b n k s.1 s.2) (fun i hi => ?_) (by simp [spec_l01Bytes_l1_b])]
  · rw [Option.bind_some, leB_map]
  · simp only [spec_l01Bytes_l1_b]
    rw [if_pos (by omega), u64_wrap_in (y := (i : Int)) (by omega) (by omega), u64_wrap_in (by omega) (by omega), if_neg (by omega)]
    have hs := shr_in (8 * (i : Int)) h h'
    rw [and255 _ hs.1 hs.2, u8_wrap_eq, show (shrV .i64 n (8 * (i : Int))) % 256 % 256 = (shrV .i64 n (8 * (i : Int))) % 256 by omega]
    unfold appL
    rw [if_pos (by simp [lit, maxRow]; omega), Option.bind_some, w1 (by omega)]
    simp [List.range_succ, lit, byB]
end Go.Proofs.TM
/- Numbers out of bytes. -/
namespace Go.Proofs.TM
open Go Go.Proofs
set_option linter.unusedVariables false
set_option linter.unusedSimpArgs false
set_option maxHeartbeats 1000000

theorem loopO_inl {σ ρ : Type} {f : σ → Option (σ ⊕ ρ)} {s s' : σ} (h : f s = some (.inl s')) : loopO f s = loopO f s' := by rw [loopO_unfold, h]; rfl
theorem loopO_inr {σ ρ : Type} {f : σ → Option (σ ⊕ ρ)} {s : σ} {r : ρ} (h : f s = some (.inr r)) : loopO f s = some r := by rw [loopO_unfold, h]; rfl

/-- The number that bytes are, the least one first. -/
def leN : Str → Nat
  | [] => 0
  | b :: s => b.toNat + 256 * leN s
theorem leN_lt : ∀ s : Str, leN s < 256 ^ s.length
  | [] => by simp [leN]
  | b :: s => by
    have := leN_lt s
    have hb : b.toNat < 256 := b.toNat_lt
    simp only [leN, List.length_cons, Nat.pow_succ]
    omega
theorem leN_append : ∀ (s t : Str), leN (s ++ t) = leN s + 256 ^ s.length * leN t
  | [], t => by simp [leN]
  | b :: s, t => by
    simp only [List.cons_append, leN, leN_append s t, List.length_cons, Nat.pow_succ, Nat.mul_add]
    rw [show 256 ^ s.length * 256 * leN t = 256 * (256 ^ s.length * leN t) by rw [Nat.mul_comm (256 ^ s.length) 256, Nat.mul_assoc]]
    omega
theorem leN_drop_le (s : Str) (j : Nat) : leN (s.drop j) ≤ leN s := by
  induction s generalizing j with
  | nil => simp
  | cons b s ih =>
    cases j with
    | zero => simp
    | succ j =>
      have := ih j
      simp only [List.drop_succ_cons, leN]; omega

theorem pow256 (i : Nat) : (2 : Int) ^ (8 * i) = ((256 ^ i : Nat) : Int) := by
  rw [Int.pow_mul]; simp
theorem p256_lt {i : Nat} (h : i < 8) : 256 * 256 ^ i ≤ 18446744073709551616 := by
  have : 256 ^ i ≤ 256 ^ 7 := Nat.pow_le_pow_right (by omega) (by omega)
  have : (256 : Nat) ^ 7 = 72057594037927936 := by decide
  omega

theorem or_u64 (x b i : Nat) (hx : x < 256 ^ i) (hb : b < 256) (hi : i < 8) : bitV .or .u64 (x : Int) (shlV .u64 (b : Int) (8 * (i : Int))) = ((x + 256 ^ i * b : Nat) : Int) := by
  have hp := p256_lt hi
  have hbm : 256 ^ i * b ≤ 256 ^ i * 255 := Nat.mul_le_mul_left _ (by omega)
  have e1 : shlV .u64 (b : Int) (8 * (i : Int)) = ((256 ^ i * b : Nat) : Int) := by
    unfold shlV
    rw [show min (8 * (i : Int)).toNat (IntKind.bits .u64) = 8 * i by show min (8 * (i : Int)).toNat 64 = _; omega, pow256]
    rw [← Int.natCast_mul, Nat.mul_comm]
    exact u64_wrap_in (by omega) (by omega)
  rw [e1]
  show IntKind.u64.wrap ((BitVec.ofInt 64 (x : Int) ||| BitVec.ofInt 64 ((256 ^ i * b : Nat) : Int)).toNat : Int) = _
  have e2 : (BitVec.ofInt 64 (x : Int) ||| BitVec.ofInt 64 ((256 ^ i * b : Nat) : Int)).toNat = x + 256 ^ i * b := by
    rw [BitVec.toNat_or, BitVec.toNat_ofInt, BitVec.toNat_ofInt]
    rw [show (((x : Nat) : Int) % ((2 ^ 64 : Nat) : Int)).toNat = x by omega, show (((256 ^ i * b : Nat) : Int) % ((2 ^ 64 : Nat) : Int)).toNat = 256 ^ i * b by omega]
    have h2 : (256 : Nat) ^ i = 2 ^ (8 * i) := by rw [Nat.pow_mul]
    rw [h2] at hx ⊢
    rw [Nat.or_comm, ← Nat.two_pow_add_eq_or_of_lt hx]
    omega
  rw [e2]
  exact u64_wrap_in (by omega) (by omega)

theorem getBits_out (s : Str) (h : s.length ≤ 8) : impl_getBits s = some (leN s : Int) := by
  unfold impl_getBits impl_getBits_l1
  rw [loop_some (f := fun t => impl_getBits_l1_b s s.length t.1 t.2) (r := (leN s : Int)) s.length (fun i t => t = ((leN (s.take i) : Int), (i : Int))) (fun i t hi ht => ?_) s.length 0 _ (by omega) (by simp [leN])]
  · rfl
  · subst ht
    simp only [impl_getBits_l1_b]
    by_cases hn : i < s.length
    · obtain ⟨b, hb⟩ := get_at hn
      rw [if_pos (by omega), if_pos (by omega), Int.toNat_natCast, hb, Option.bind_some, wrap_in (n := 8 * (i : Int)) (by omega) (by omega), if_neg (by omega), u64_wrap_in (by omega) (by have := b.toNat_lt; omega)]
      refine .inr ⟨hn, _, rfl, ?_⟩
      have ht : s.take (i + 1) = s.take i ++ [b] := by rw [List.take_add_one, hb]; rfl
      have hl : (s.take i).length = i := by simp; omega
      have hlt := leN_lt (s.take i)
      rw [hl] at hlt
      rw [or_u64 _ _ _ hlt b.toNat_lt (by omega), ht, leN_append, hl, w1 (by omega)]
      simp [leN]
    · have : i = s.length := by omega
      subst this
      rw [if_neg (by omega), List.take_length]
      exact .inl rfl

theorem l01GetUint_out (s : Str) (at_ k : Nat) (hk : 1 ≤ k ∧ k ≤ 8) (h : at_ + k ≤ s.length) (hs : s.length ≤ 1048576) :
    spec_l01GetUint s at_ k = some (if leN ((s.drop at_).take k) < 9223372036854775808 then ((leN ((s.drop at_).take k) : Int), true) else (0, false)) := by
  have hpl : ((s.drop at_).take k).length = k := by simp; omega
  have hget : ∀ j, j < k → s[at_ + j]? = ((s.drop at_).take k)[j]? := fun j hj => by rw [List.getElem?_take, if_pos hj, List.getElem?_drop]
  generalize hp : (s.drop at_).take k = p at hpl hget
  have loop : leN p < 9223372036854775808 → spec_l01GetUint_p1 s at_ k = some ((leN p : Int), true) := fun hlt => by
    unfold spec_l01GetUint_p1 spec_l01GetUint_l2
    rw [wrap_in (by omega) (by omega)]
    rw [loop_some (f := fun t => spec_l01GetUint_l2_b s at_ t.1 t.2) (r := (leN p : Int)) k (fun i t => t = ((leN (p.drop (k - i)) : Int), (k : Int) - 1 - i)) (fun i t hi ht => ?_) k 0 _ (by omega) (by rw [List.drop_of_length_le (by omega)]; simp [leN])]
    · rfl
    · subst ht
      simp only [spec_l01GetUint_l2_b]
      by_cases hn : i < k
      · obtain ⟨b, hb⟩ := get_at (l := p) (i := k - 1 - i) (by omega)
        have hd : p.drop (k - (i + 1)) = b :: p.drop (k - i) := by
          rw [show k - (i + 1) = k - 1 - i by omega, show k - i = k - 1 - i + 1 by omega]
          rw [List.drop_eq_getElem_cons (by omega)]
          congr 1
          rw [List.getElem?_eq_getElem (by omega)] at hb
          exact Option.some.inj hb
        have hle := leN_drop_le p (k - (i + 1))
        have e : leN (p.drop (k - (i + 1))) = b.toNat + 256 * leN (p.drop (k - i)) := by rw [hd]; rfl
        have hbl := b.toNat_lt
        rw [if_pos (by omega), wrap_in (n := (at_ : Int) + _) (by omega) (by omega), if_pos (by omega), show ((at_ : Int) + ((k : Int) - 1 - i)).toNat = at_ + (k - 1 - i) by omega, hget _ (by omega), hb, Option.bind_some]
        rw [wrap_in (n := (b.toNat : Int)) (by omega) (by omega), wrap_in (n := _ * 256) (by omega) (by omega), wrap_in (by omega) (by omega), wrap_in (by omega) (by omega)]
        refine .inr ⟨hn, _, rfl, ?_⟩
        rw [e]
        simp only [Prod.mk.injEq]
        omega
      · have : i = k := by omega
        subst this
        rw [if_neg (by omega)]
        simp
  unfold spec_l01GetUint spec_l01Within
  simp only [l00In_out, Option.bind_some, decide_eq_true_eq]
  rw [if_pos (by omega), if_pos (by omega), Option.bind_some, wrap_in (by omega) (by omega), if_neg (by simp; omega)]
  by_cases h8 : (k : Int) = 8
  · rw [if_pos h8, wrap_in (by omega) (by omega), if_pos (by omega)]
    obtain ⟨b, hb⟩ := get_at (l := p) (i := 7) (by omega)
    rw [show ((at_ : Int) + 7).toNat = at_ + 7 by omega, hget 7 (by omega), hb, Option.bind_some]
    have hsp : p = p.take 7 ++ [b] := by
      have h1 : p.take (7 + 1) = p.take 7 ++ [b] := by rw [List.take_add_one, hb]; rfl
      rw [List.take_of_length_le (by omega)] at h1
      exact h1
    have hv : leN p = leN (p.take 7) + 72057594037927936 * b.toNat := by
      conv => lhs; rw [hsp]
      rw [leN_append, show (p.take 7).length = 7 by simp; omega]
      simp [leN]
    have hlt := leN_lt (p.take 7)
    rw [show (p.take 7).length = 7 by simp; omega] at hlt
    have h256 : (256 : Nat) ^ 7 = 72057594037927936 := by decide
    by_cases hb7 : (b.toNat : Int) > 127
    · rw [if_pos hb7, if_neg (by omega)]
    · rw [if_neg hb7, loop (by omega), Option.bind_some, if_pos (by omega)]
  · have hlt := leN_lt p
    rw [hpl] at hlt
    have : (256 : Nat) ^ k ≤ 256 ^ 7 := Nat.pow_le_pow_right (by omega) (by omega)
    have h256 : (256 : Nat) ^ 7 = 72057594037927936 := by decide
    rw [if_neg h8, loop (by omega), Option.bind_some, if_pos (by omega)]
end Go.Proofs.TM
/- The law of FormatGroups, on data. -/
namespace Go.Proofs.TM
open Go Go.Proofs
set_option linter.unusedVariables false
set_option linter.unusedSimpArgs false
set_option maxHeartbeats 1000000

/-- Both ways of laying a header into a pager of one's own. -/
theorem create_two (p : DPager) (h : DHdr) (hp : PagerV p) (hin : PagerIn p 1048576) (hv : HdrV h) :
    ∃ o o', spec_l14Create_o5b p h.1 h.2.1 h.2.2 = some o ∧ impl_Pager_createHeader_o5b p h.1 h.2.1 h.2.2 = some o' ∧ o.2.1 = h.2.2 ∧ o'.2.1 = h.2.2 ∧ o.2.2.2 = o'.2.2.2 ∧
      (o.2.2.2 = 0 → o = o' ∧ Like p o.1 ∧ areaK p < o.2.2.1 ∧ o.2.2.1 < (p.1.1.length : Int)) := by
  have hl := encH_len hv
  have hn := needH_in hv
  have e1 : spec_l14Encode (h.1, h.2.1, h.2.2) = some (encH h) := l14Encode_out h hv
  have e2 : impl_Header_encode (h.1, h.2.1, h.2.2) = some (encH h) := encode_out h hv
  unfold spec_l14Create_o5b impl_Pager_createHeader_o5b spec_l14Need impl_chainLen
  rw [e1, e2, Option.bind_some, Option.bind_some, Option.bind_some, need_wrap (by omega), Option.bind_some, show (((encH h).length + 59) / 60 : Nat) = needH h from rfl]
  obtain ⟨g, g1, g2, g3⟩ := grow_two p (needH h) hp hin (by omega)
  unfold spec_l14Grow_ob7 impl_Pager_grow_o83
  rw [g1, g2]
  simp only [Option.bind_some]
  cases g with
  | inr r =>
    have hr : r.2.2 ≠ 0 := g3
    simp only [Sum.elim_inr, Option.bind_some, hr, not_false_eq_true, if_true]
    exact ⟨_, _, rfl, rfl, rfl, rfl, rfl, fun hh => absurd hh hr⟩
  | inl r =>
    obtain ⟨k1, k2, k3⟩ : r.2.length = needH h ∧ Like p r.1 ∧ GoodB p r.2 := g3
    obtain ⟨x, hx⟩ := get_at (l := r.2) (i := 0) (by omega)
    have hxb := k3 x (List.mem_of_getElem? hx)
    have hne : ¬ r.2 = [] := by intro hh; rw [hh] at k1; simp at k1; omega
    obtain ⟨s, s', s1, s2, s3⟩ := store_two p r.1 r.2 h.2.2 (encH h) hp k2 k3 (by omega) (by omega)
    simp only [Sum.elim_inl, Option.bind_some, not_true_eq_false, if_false]
    rw [if_pos ⟨by omega, by omega⟩, show ((0 : Int)).toNat = 0 from rfl, hx, Option.bind_some]
    unfold spec_l14Store_od0 impl_Pager_writeChain_oe4
    rw [e1, Option.bind_some, s1, s2]
    simp only [Option.bind_some]
    cases s with
    | inr t =>
      cases s' with
      | inl t' => exact absurd s3 id
      | inr t' =>
        obtain ⟨rfl, t1, t2⟩ : t = (t'.1, r.2, h.2.2, t'.2.2) ∧ t'.2.1 = r.2 ∧ t'.2.2 ≠ 0 := s3
        simp only [Sum.elim_inr, Option.bind_some, t1, fixLen_eq, if_true, t2, not_false_eq_true, hx, hne, and_self]
        exact ⟨_, _, rfl, rfl, rfl, rfl, rfl, fun hh => absurd hh t2⟩
    | inl t =>
      cases s' with
      | inr t' => exact absurd s3 id
      | inl t' =>
        obtain ⟨rfl, t1, t2⟩ : t = (t'.1, r.2, h.2.2) ∧ t'.2 = r.2 ∧ Like p t'.1 := s3
        have hi : (0 : Int) ≤ 0 ∧ (0 : Int) < ((r.2.length : Nat) : Int) := ⟨by omega, by omega⟩
        simp only [Sum.elim_inl, Option.bind_some, t1, fixLen_eq, if_true, not_true_eq_false, if_false, hx, hne, not_false_eq_true, and_self, hi, show ((0 : Int)).toNat = 0 from rfl]
        exact ⟨_, _, rfl, rfl, rfl, rfl, rfl, fun _ => ⟨rfl, t2, hxb⟩⟩

/-- The root of a pager. -/
def rootN (p : DPager) : Nat := leN ((areaP p).take 2)
theorem rootN_lt (p : DPager) : rootN p < 65536 := by
  have h := leN_lt ((areaP p).take 2)
  have : ((areaP p).take 2).length ≤ 2 := by simp; omega
  have h2 : 256 ^ ((areaP p).take 2).length ≤ 256 ^ 2 := Nat.pow_le_pow_right (by omega) this
  unfold rootN
  omega
theorem l13Root_out (p : DPager) (hp : PagerV p) (hin : PagerIn p 1048576) : spec_l13Root p = some (rootN p : Int) := by
  have hl := areaP_len hp
  have hr := rootN_lt p
  have h := l01GetUint_out (areaP p) 0 2 (by omega) (by omega) (by omega)
  rw [List.drop_zero, if_pos (show leN ((areaP p).take 2) < 9223372036854775808 by unfold rootN at hr; omega)] at h
  have h' : spec_l01GetUint (areaP p) 0 2 = some ((leN ((areaP p).take 2) : Int), true) := h
  unfold spec_l13Root
  rw [l13Area_out p hp hin, Option.bind_some, h']; rfl
theorem iRoot_out (p : DPager) (hp : PagerV p) (hin : PagerIn p 1048576) : impl_Pager_root p = some (rootN p : Int) := by
  have hl := areaP_len hp
  have hr := rootN_lt p
  have ha := area_in hp
  have h : subL (areaP p) none (some 2) = some ((areaP p).take 2) := subL_to (areaP p) 2 (by omega)
  unfold impl_Pager_root
  rw [iArea_out p hp, Option.bind_some, get_out p _ hp hin (by omega) (by omega), Option.bind_some, show getP p (areaK p) = areaP p from rfl, h, Option.bind_some, getBits_out _ (by simp; omega), Option.bind_some, wrap_in (by omega) (by unfold rootN at hr; omega)]; rfl

/-- The root laid into the allocation page. -/
def rootD (p : DPager) (k : Int) : Str := leB k 2 ++ (areaP p).drop 2
theorem rootD_len {p : DPager} (hp : PagerV p) (k : Int) : (rootD p k).length = 64 := by have := areaP_len hp; simp [rootD]; omega
open Classical in
theorem setRoot_out (p : DPager) (k : Int) (hp : PagerV p) (hin : PagerIn p 1048576) :
    impl_Pager_setRoot_of2 p k = some (if SetV p (areaK p) (rootD p k) then outPg (setP p (areaK p) (rootD p k)) 0 else outPg p 5) := by
  have hl := areaP_len hp
  have ha := area_in hp
  have hb : impl_putBytes k 2 = some (leB k 2) := putBytes_out k 2 (by omega)
  have hs2 : subL (areaP p) (some 2) none = some ((areaP p).drop 2) := subL_from (areaP p) 2 (by omega)
  unfold impl_Pager_setRoot_of2
  rw [iArea_out p hp, Option.bind_some, hb, Option.bind_some, Option.bind_some, get_out p _ hp hin (by omega) (by omega), Option.bind_some, show getP p (areaK p) = areaP p from rfl, hs2, Option.bind_some, if_pos (by simp; omega), show leB k 2 ++ (areaP p).drop 2 = rootD p k from rfl, set_out p _ _ hp hin, Option.bind_some]

def hdr0 : DHdr := (1, 1, [(9, 0, [0]), (7, 0, [])])
theorem hdr0_v : HdrV hdr0 := by
  refine ⟨by simp [hdr0], by simp [hdr0], by simp [hdr0], fun m hm => ?_⟩
  simp only [hdr0, List.mem_cons, List.not_mem_nil, or_false] at hm
  rcases hm with rfl | rfl <;> exact ⟨by simp, by simp, by simp⟩
theorem l17Empty_out : spec_l17Empty = some hdr0 := rfl
theorem emptyGroup_out : impl_emptyGroup = some hdr0 := by
  have hb : impl_putBytes 0 1 = some (leB 0 1) := putBytes_out 0 1 (by omega)
  have h0 : leB 0 1 = [0] := by simp [leB, byB, shrV, List.range_succ]
  unfold impl_emptyGroup impl_NameHeap_encode impl_NameHeap_encode_l1
  rw [show ((([] : List Str).length : Int)) = 0 from rfl, hb, Option.bind_some, loopO_inr (r := [0]) (by simp [impl_NameHeap_encode_l1_b, h0])]
  rfl

open Classical in
theorem FormatGroups_two (p : DPager) (hin : PagerIn p 1048576) : ∃ o, spec_FormatGroups p = some o ∧ impl_FormatGroups p = some o ∧ PagerIn o.1 1048576 := by
  unfold spec_FormatGroups impl_FormatGroups
  simp only [l12Ok_out p hin, ValidPager_out p hin, Option.bind_some, deq]
  by_cases hp : PagerV p
  case neg => rw [if_pos hp, if_pos hp]; exact ⟨_, rfl, rfl, noPg_in⟩
  rw [if_neg (Classical.not_not.2 hp), if_neg (Classical.not_not.2 hp)]
  unfold impl_Pager_changed_Pager_formatGroups
  rw [l12Own_out p hin, clone_out p hin, Option.bind_some, Option.bind_some]
  unfold spec_l17Format_o19 impl_Pager_formatGroups_o19
  rw [l13Root_out p hp hin, iRoot_out p hp hin, Option.bind_some, Option.bind_some]
  by_cases hr : (rootN p : Int) = 0
  case neg =>
    simp only [hr, not_false_eq_true, if_true, Option.bind_some]
    rw [if_pos (by omega)]
    exact ⟨_, rfl, rfl, noPg_in⟩
  simp only [hr, not_true_eq_false, if_false]
  rw [l17Empty_out, emptyGroup_out, Option.bind_some, Option.bind_some]
  obtain ⟨o, o', h1, h2, h3, h4, h5, h6⟩ := create_two p hdr0 hp hin hdr0_v
  rw [h1, h2, Option.bind_some, Option.bind_some]
  simp only [h3, h4, if_true]
  by_cases hc : o.2.2.2 = 0
  · obtain ⟨rfl, h7, h8, h9⟩ := h6 hc
    have ha := area_in hp
    have hl := areaP_len h7.v
    have hb : spec_l01Bytes o.2.2.1 2 = some (leB o.2.2.1 2) := l01Bytes_out o.2.2.1 2 (by omega) (by omega) (by omega)
    have hs2 : subL (areaP o.1) (some 2) none = some ((areaP o.1).drop 2) := subL_from (areaP o.1) 2 (by omega)
    simp only [hc, not_true_eq_false, if_false]
    rw [setRoot_out o.1 _ h7.v h7.i, hb, Option.bind_some, l13Area_out o.1 h7.v h7.i, Option.bind_some, hs2, Option.bind_some, if_pos (by simp; omega), show leB o.2.2.1 2 ++ (areaP o.1).drop 2 = rootD o.1 o.2.2.1 from rfl, l13Put_out o.1 _ h7.v h7.i]
    by_cases hs : SetV o.1 (areaK o.1) (rootD o.1 o.2.2.1)
    · simp only [if_pos hs, Option.bind_some, not_true_eq_false, if_false]
      exact ⟨_, rfl, rfl, setP_in _ _ _ h7.v h7.i⟩
    · simp only [if_neg hs, Option.bind_some]
      rw [if_pos (by omega)]
      exact ⟨_, rfl, rfl, noPg_in⟩
  · have hc' : ¬ o'.2.2.2 = 0 := by rw [← h5]; exact hc
    simp only [hc, hc', not_false_eq_true, if_true, Option.bind_some, h5]
    exact ⟨_, rfl, rfl, noPg_in⟩

theorem FnExactFormatGroups_true (p : DPager) (h : Gd.ok p) : laws_FnExactFormatGroups p = some true := by
  unfold laws_FnExactFormatGroups
  obtain ⟨r, hr, hin⟩ := szPager_out p (pagerOk_of h)
  rw [hr, Option.bind_some]
  by_cases hneg : r < 0
  · rw [if_pos hneg]
  rw [if_neg hneg]
  have hin := hin (by omega)
  obtain ⟨o, hS, hI, hoin⟩ := FormatGroups_two p hin
  obtain ⟨w, hw, w1, w2, w3, w4, w5, w6⟩ := markPager_out p hin
  obtain ⟨u, hu, u1, u2, u3, u4, u5, u6⟩ := markPager_out _ hoin
  simp only [toPager_out p hin, Option.bind_some, hS, hI, eqPager_same _ hoin, eqPager_same p hin, not_true_eq_false, if_false, hw, w1, w2, w3, w4, w5, and_self, if_true, hu, u1, u2, u3, u4, u5, u6]
end Go.Proofs.TM
