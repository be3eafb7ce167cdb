/- The law of ReadRun, on data. -/
import Derived.Test.YtljphigfgffeeaaLGet
import Derived.Test.YtljphigfgffeeaaLData
namespace Go.Proofs.TM
open Go Go.Proofs
set_option linter.unusedVariables false
set_option linter.unusedSimpArgs false
set_option maxHeartbeats 1000000

/-- The number of blocks for so many bytes. -/
def numB (s : Int) : Int := max 1 ((s + 63) / 64)
theorem numB_in {s : Int} (h0 : 0 ≤ s) (h1 : s ≤ 65536) : 1 ≤ numB s ∧ numB s ≤ 1025 ∧ s ≤ 64 * numB s := by unfold numB; omega
theorem wrapB {s : Int} (h0 : 0 ≤ s) (h1 : s ≤ 65536) : IntKind.i64.wrap (Int.tdiv (IntKind.i64.wrap (IntKind.i64.wrap (s + 64) - 1)) 64) = (s + 63) / 64 := by
  rw [wrap_in (n := s + 64) (by omega) (by omega), wrap_in (n := s + 64 - 1) (by omega) (by omega), Int.tdiv_eq_ediv_of_nonneg (by omega), show s + 64 - 1 = s + 63 by omega, wrap_in (by omega) (by omega)]
theorem blocksFor_out {s : Int} (h0 : 0 ≤ s) (h1 : s ≤ 65536) : impl_blocksFor s = some (numB s) := by
  unfold impl_blocksFor numB
  rw [wrapB h0 h1]
theorem BlocksFor_out (s : Int) : spec_BlocksFor s = some (if 0 ≤ s ∧ s ≤ 65536 then numB s else 0) := by
  unfold spec_BlocksFor
  have hwi : spec_l00In s 0 65536 = some (decide (0 ≤ s ∧ s ≤ 65536)) := by
    unfold spec_l00In
    by_cases h1 : 0 ≤ s <;> by_cases h2 : s ≤ 65536 <;> simp [h1, h2]
  rw [hwi, Option.bind_some]
  by_cases hs : 0 ≤ s ∧ s ≤ 65536
  · rw [if_pos hs, if_neg (by simpa using hs), wrapB hs.1 hs.2]
    unfold numB spec_l00Max
    by_cases h2 : 1 > (s + 63) / 64
    · rw [if_pos h2, Option.bind_some]; congr 1; omega
    · rw [if_neg h2, Option.bind_some]; congr 1; omega
  · rw [if_neg hs, if_pos (by simpa using hs)]

/-- The contents of blocks, one behind another. -/
def catP (p : DPager) (k : Int) : Nat → Str
  | 0 => []
  | i + 1 => catP p k i ++ getP p (k + i)
theorem catP_len {p : DPager} (hp : PagerV p) {k : Int} (h0 : 0 ≤ k) : ∀ i : Nat, k + i ≤ (p.1.1.length : Int) → (catP p k i).length = 64 * i
  | 0, _ => rfl
  | i + 1, h => by
    have ih := catP_len hp h0 i (by omega)
    have := getP_len p (k + i) hp (by omega) (by omega)
    simp only [catP, List.length_append, ih, this]
    omega
theorem app_str (l : Str) (m : Str) (h : l.length + m.length ≤ 1000000) : appL 1 (l.map Bt.mk) (m.map Bt.mk) = some ((l ++ m).map Bt.mk) := by
  unfold appL
  rw [if_pos (by simp only [List.length_map]; unfold maxRow; omega), List.map_append]

def RunV (p : DPager) (k s : Int) : Prop := 0 ≤ s ∧ s ≤ 65536 ∧ areaK p < k ∧ k ≤ (p.1.1.length : Int) - numB s

theorem map_v (l : Str) : (l.map Bt.mk).map Bt.v = l := by
  rw [List.map_map]
  have : (Bt.v ∘ Bt.mk) = id := rfl
  rw [this, List.map_id]

theorem l13Read_out (p : DPager) (k s : Int) (hp : PagerV p) (hin : PagerIn p 1048576) (h : RunV p k s) : spec_l13Read p k s = some ((catP p k (numB s).toNat).take s.toNat) := by
  have ha := area_in hp
  obtain ⟨h0, h1, h2, h3⟩ := h
  have hn := numB_in h0 h1
  unfold spec_l13Read spec_l13Read_l1
  rw [loop_some (r := (s, (catP p k (numB s).toNat).map Bt.mk)) (numB s).toNat (fun i st => st = ((catP p k i).map Bt.mk, (i : Int))) (fun i st hi hs => by
    subst hs
    simp only [spec_l13Read_l1_b, pg_eta]
    rw [BlocksFor_out, if_pos ⟨h0, h1⟩, Option.bind_some]
    by_cases hlt : i < (numB s).toNat
    · have hl := catP_len hp (show 0 ≤ k by omega) i (by omega)
      have hg := getP_len p (k + i) hp (by omega) (by omega)
      rw [if_pos (by omega), wrap_in (n := k + i) (by omega) (by omega), l12Get_out p _ hp hin (by omega) (by omega), Option.bind_some, app_str _ _ (by omega), Option.bind_some, w1 (by omega)]
      exact .inr ⟨hlt, _, rfl, rfl⟩
    · have : i = (numB s).toNat := by omega
      subst this
      rw [if_neg (by omega)]
      exact .inl rfl) (numB s).toNat 0 (([] : List Bt), (0 : Int)) (by omega) rfl, Option.bind_some]
  have hl := catP_len hp (show 0 ≤ k by omega) (numB s).toNat (by omega)
  obtain ⟨n, rfl⟩ : ∃ n : Nat, s = n := ⟨s.toNat, by omega⟩
  rw [subL_to _ n (by simp only [List.length_map]; omega), Option.bind_some, ← List.map_take, map_v]
  rfl

theorem readRun_out (p : DPager) (k s : Int) (hp : PagerV p) (hin : PagerIn p 1048576) (h : RunV p k s) : impl_Pager_readRun p k s = some ((catP p k (numB s).toNat).take s.toNat) := by
  have ha := area_in hp
  obtain ⟨h0, h1, h2, h3⟩ := h
  have hn := numB_in h0 h1
  unfold impl_Pager_readRun impl_Pager_readRun_l1
  rw [blocksFor_out h0 h1, Option.bind_some, loop_some (r := (s, (catP p k (numB s).toNat).map Bt.mk)) (numB s).toNat (fun i st => st = ((catP p k i).map Bt.mk, (i : Int))) (fun i st hi hs => by
    subst hs
    simp only [impl_Pager_readRun_l1_b, pg_eta]
    by_cases hlt : i < (numB s).toNat
    · have hl := catP_len hp (show 0 ≤ k by omega) i (by omega)
      have hg := getP_len p (k + i) hp (by omega) (by omega)
      unfold strings_Builder_WriteString_o0d
      rw [if_pos (by omega), wrap_in (n := k + i) (by omega) (by omega), get_out p _ hp hin (by omega) (by omega), Option.bind_some, app_str _ _ (by omega), Option.bind_some, Option.bind_some, w1 (by omega)]
      exact .inr ⟨hlt, _, rfl, rfl⟩
    · have : i = (numB s).toNat := by omega
      subst this
      rw [if_neg (by omega)]
      exact .inl rfl) (numB s).toNat 0 (nilB, (0 : Int)) (by omega) rfl, Option.bind_some]
  have hl := catP_len hp (show 0 ≤ k by omega) (numB s).toNat (by omega)
  obtain ⟨n, rfl⟩ : ∃ n : Nat, s = n := ⟨s.toNat, by omega⟩
  unfold strings_Builder_String_of5 strB
  rw [if_pos (by simp only [List.length_map]; unfold maxRow; omega), Option.bind_some, Option.bind_some, map_v, subL_to _ n (by omega), Option.bind_some]
  rfl

open Classical in
noncomputable def outRR (p : DPager) (k s : Int) : Str × Int := if PagerV p then (if RunV p k s then ((catP p k (numB s).toNat).take s.toNat, 0) else ([], 2)) else ([], 1)

theorem spec_ReadRun_out (p : DPager) (k s : Int) (hin : PagerIn p 1048576) : spec_ReadRun p k s = some (outRR p k s) := by
  unfold spec_ReadRun outRR
  simp only [l12Ok_out p hin, Option.bind_some, deq]
  by_cases h : PagerV p
  case neg => rw [if_pos (by simpa using h), if_neg h]
  have ha := area_in h
  rw [if_neg (by simpa using h), if_pos h, BlocksFor_out, Option.bind_some]
  by_cases hs : 0 ≤ s ∧ s ≤ 65536
  · have hn := numB_in hs.1 hs.2
    rw [if_pos hs, l13Data_out p h k _ (by omega) (by omega), Option.bind_some]
    by_cases hr : RunV p k s
    · rw [if_neg (by simp only [deq]; exact fun hh => hh ⟨by omega, by have := hr.2.2; omega, hr.2.2⟩), if_pos hr, l13Read_out p k s h hin hr]; rfl
    · rw [if_pos (by simp only [deq]; exact fun hh => hr ⟨hs.1, hs.2, hh.2.2⟩), if_neg hr]
  · rw [if_neg hs, l13Data_out p h k 0 (by omega) (by omega), Option.bind_some, if_pos (by simp), if_neg (fun hr => hs ⟨hr.1, hr.2.1⟩)]

theorem impl_ReadRun_out (p : DPager) (k s : Int) (hin : PagerIn p 1048576) : impl_ReadRun p k s = some (outRR p k s) := by
  unfold impl_ReadRun outRR
  simp only [ValidPager_out p hin, Option.bind_some, deq]
  by_cases h : PagerV p
  case neg => rw [if_pos (by simpa using h), if_neg h]
  have ha := area_in h
  rw [if_neg (by simpa using h), if_pos h]
  unfold impl_Pager_isRun
  have hwi : impl_within s 0 65536 = some (decide (0 ≤ s ∧ s ≤ 65536)) := by
    unfold impl_within
    by_cases h1 : 0 ≤ s <;> by_cases h2 : s ≤ 65536 <;> simp [h1, h2]
  rw [hwi, Option.bind_some]
  by_cases hs : 0 ≤ s ∧ s ≤ 65536
  · have hn := numB_in hs.1 hs.2
    rw [if_pos (by simpa using hs), blocksFor_out hs.1 hs.2, Option.bind_some, isData_out p h k _ (by omega) (by omega), Option.bind_some, Option.bind_some]
    by_cases hr : RunV p k s
    · rw [if_neg (by simp only [deq]; exact fun hh => hh hr.2.2), if_pos hr, readRun_out p k s h hin hr]; rfl
    · rw [if_pos (by simp only [deq]; exact fun hh => hr ⟨hs.1, hs.2, hh⟩), if_neg hr]
  · rw [if_neg (by simpa using hs), Option.bind_some, if_pos (by simp), if_neg (fun hr => hs ⟨hr.1, hr.2.1⟩)]

theorem FnExactReadRun_true (p : DPager) (k s : Int) (h : Gd.ok p) (_ : Gd.ok k) (_ : Gd.ok s) : laws_FnExactReadRun p k s = some true := by
  unfold laws_FnExactReadRun
  obtain ⟨r, hr, hin⟩ := szPager_out p (pagerOk_of h)
  rw [hr, Option.bind_some]
  by_cases hneg : r < 0
  · rw [if_pos hneg]
  rw [if_neg hneg]
  have hin := hin (by omega)
  have hS := spec_ReadRun_out p k s hin
  have hI := impl_ReadRun_out p k s hin
  simp only [toPager_out p hin, Option.bind_some, flatP, pg_eta, hS, hI, eqPager_same p hin, not_true_eq_false, if_false]
end Go.Proofs.TM
