/- Pagers: sizes, copies, comparisons, which are valid. -/
import Derived.Test.YtljphigfgffeeaaLSup
namespace Go.Proofs.TM
open Go Go.Proofs
set_option linter.unusedVariables false
set_option linter.unusedSimpArgs false
set_option maxHeartbeats 1000000

abbrev DPager := DDisk × DSuper × Int × Int × List (Int × Str) × List (Int × Str)

theorem szPageS_out (l : List (Int × Str)) (h : PutsOk l) (L : Int) (h0 : 0 ≤ L) (h1 : L < 9223372036854775807) : laws_szPageS l L = some (-1) ∨ ∃ r, laws_szPageS l L = some r ∧ 0 ≤ r ∧ r ≤ L ∧ (l.length : Int) ≤ L := szPutS_out l h L h0 h1

def PagerOk (a : DPager) : Prop := StrsOk a.1.1 ∧ PutsOk a.1.2.1 ∧ PutsOk a.2.2.2.2.1 ∧ PutsOk a.2.2.2.2.2
def PagerIn (a : DPager) (L : Nat) : Prop := a.1.1.length ≤ L ∧ a.1.2.1.length ≤ L ∧ a.2.2.2.2.1.length ≤ L ∧ a.2.2.2.2.2.length ≤ L

theorem szPager_out (a : DPager) (h : PagerOk a) : ∃ r, laws_szPager a 1048576 = some r ∧ (0 ≤ r → PagerIn a 1048576) := by
  obtain ⟨h1, h2, h3, h4⟩ := h
  unfold laws_szPager laws_szDisk
  rcases szStringS_out a.1.1 h1 1048576 (by omega) (by omega) with e | ⟨r1, e, a1, b1, c1⟩
  · exact ⟨-1, by rw [e]; rfl, fun h => by omega⟩
  rcases szPutS_out a.1.2.1 h2 r1 a1 (by omega) with e2 | ⟨r2, e2, a2, b2, c2⟩
  · exact ⟨-1, by rw [e, Option.bind_some, if_neg (by omega), e2]; rfl, fun h => by omega⟩
  rcases szPageS_out a.2.2.2.2.1 h3 r2 a2 (by omega) with e3 | ⟨r3, e3, a3, b3, c3⟩
  · exact ⟨-1, by rw [e, Option.bind_some, if_neg (by omega), e2, Option.bind_some, if_neg (by omega), Option.bind_some, if_neg (by omega), e3]; rfl, fun h => by omega⟩
  rcases szPageS_out a.2.2.2.2.2 h4 r3 a3 (by omega) with e4 | ⟨r4, e4, a4, b4, c4⟩
  · exact ⟨-1, by rw [e, Option.bind_some, if_neg (by omega), e2, Option.bind_some, if_neg (by omega), Option.bind_some, if_neg (by omega), e3, Option.bind_some, if_neg (by omega), e4]; rfl, fun h => by omega⟩
  exact ⟨r4, by rw [e, Option.bind_some, if_neg (by omega), e2, Option.bind_some, if_neg (by omega), Option.bind_some, if_neg (by omega), e3, Option.bind_some, if_neg (by omega), e4, Option.bind_some, if_neg (by omega)], fun _ => ⟨by omega, by omega, by omega, by omega⟩⟩

theorem toPageS_out (l : List (Int × Str)) (h : l.length ≤ 1048576) : laws_toPageS l = some l := toPutS_out l h
def flatP (a : DPager) : List Str × (List (Int × Str)) × Int × Bool × Int × Int × Int × Int × Int × Int × (List (Int × Str)) × (List (Int × Str)) :=
  (a.1.1, a.1.2.1, a.1.2.2.1, a.1.2.2.2, a.2.1.1, a.2.1.2.1, a.2.1.2.2.1, a.2.1.2.2.2, a.2.2.1, a.2.2.2.1, a.2.2.2.2.1, a.2.2.2.2.2)
theorem toPager_out (a : DPager) (h : PagerIn a 1048576) : laws_toPager a = some (flatP a) := by
  obtain ⟨h1, h2, h3, h4⟩ := h
  simp only [laws_toPager, laws_toDisk, laws_toSuper, toStringS_out _ h1, toPutS_out _ h2, toPageS_out _ h3, toPageS_out _ h4, Option.bind_some, flatP]

theorem eqPageS_same (l : List (Int × Str)) (h : l.length ≤ 1048576) : laws_eqPageS l l = some true := eqPutS_same l h
theorem eqPager_same (a : DPager) (h : PagerIn a 1048576) : laws_eqPager a a = some true := by
  obtain ⟨h1, h2, h3, h4⟩ := h
  simp [laws_eqPager, laws_eqDisk, laws_eqSuper, eqStringS_same _ h1, eqPutS_same _ h2, eqPageS_same _ h3, eqPageS_same _ h4]

theorem superFits_out (d : DDisk) (s : DSuper) : impl_superFits d s = some (@decide (DiskV d ∧ SuperV s ∧ s.1 = (d.1.length : Int)) (Classical.propDecidable _)) := by
  unfold impl_superFits
  simp only [ValidDisk_out, iValidSuper_out, Option.bind_some, decide_eq_true_eq]
  split
  · split
    · exact dI (by simp_all)
    · exact dF (by simp_all)
  · exact dF (by simp_all)

def PageV (l : List (Int × Str)) (i : Nat) : Prop := ∀ x, l[i]? = some x → 0 ≤ x.1 ∧ x.1 ≤ 255 ∧ x.2.length = 64 ∧ (0 < i → ∀ y, l[i - 1]? = some y → y.1 < x.1)
def PagesV (l : List (Int × Str)) : Prop := l.length ≤ 256 ∧ ∀ i, i < l.length → PageV l i

theorem l11Pages_out (l : List (Int × Str)) (hl : l.length ≤ 1048576) : spec_l11Pages l = some (@decide (PagesV l) (Classical.propDecidable _)) := by
  unfold spec_l11Pages
  by_cases h1 : (l.length : Int) > 256
  case pos => rw [if_pos h1]; exact dF fun h => by have := h.1; omega
  rw [if_neg h1]
  unfold spec_l11Pages_l1
  rw [loop_all l.length (PageV l) (fun s => spec_l11Pages_l1_b l s) (.inl ()) (.inr false) (fun i hi hp => by
      obtain ⟨x, hx⟩ := get_at hi
      have hx' := (List.getElem?_eq_some_iff.1 hx).2
      obtain ⟨a, b, c, e⟩ := hp x hx
      have c' : (x.2.length : Int) = 64 := by omega
      simp only [spec_l11Pages_l1_b, Int.ofNat_lt.2 hi, Int.natCast_nonneg, Int.toNat_natCast, hx, if_true, Option.bind_some, l00In_out, a, b, c', and_self, decide_true, not_true_eq_false, if_false, w1 (show i < 9223372036854775807 by omega)]
      by_cases h0 : (i : Int) > 0
      · rw [if_pos h0, wrap_in (by omega) (by omega), if_pos (by omega), show ((i : Int) - 1).toNat = i - 1 by omega]
        obtain ⟨y, hy⟩ := get_at (l := l) (show i - 1 < l.length by omega)
        rw [hy, Option.bind_some, if_neg (by have := e (by omega) y hy; omega)]
      · rw [if_neg h0]) (fun i hi hp => by
      obtain ⟨x, hx⟩ := get_at hi
      simp only [spec_l11Pages_l1_b, Int.ofNat_lt.2 hi, Int.natCast_nonneg, Int.toNat_natCast, hx, if_true, Option.bind_some, l00In_out, deq]
      by_cases a : 0 ≤ x.1 ∧ x.1 ≤ 255
      case neg => rw [if_pos a]
      rw [if_neg (by simpa using a)]
      by_cases c : (x.2.length : Int) = 64
      case neg => rw [if_pos c]
      rw [if_neg (by simpa using c)]
      by_cases h0 : (i : Int) > 0
      · rw [if_pos h0, wrap_in (by omega) (by omega), if_pos (by omega), show ((i : Int) - 1).toNat = i - 1 by omega]
        obtain ⟨y, hy⟩ := get_at (l := l) (show i - 1 < l.length by omega)
        rw [hy, Option.bind_some]
        by_cases e : y.1 ≥ x.1
        · rw [if_pos e]
        · exfalso; apply hp; intro x' hx'; rw [hx] at hx'; cases hx'
          exact ⟨a.1, a.2, by omega, fun _ y' hy' => by rw [hy] at hy'; cases hy'; omega⟩
      · exfalso; apply hp; intro x' hx'; rw [hx] at hx'; cases hx'
        exact ⟨a.1, a.2, by omega, fun h => by omega⟩) (by simp [spec_l11Pages_l1_b])]
  by_cases h5 : ∀ i, i < l.length → PageV l i
  · rw [if_pos h5]; exact dT ⟨by omega, h5⟩
  · rw [if_neg h5]; exact dF fun h => h5 h.2

theorem ValidPages_out (l : List (Int × Str)) (hl : l.length ≤ 1048576) : impl_ValidPages l = some (@decide (PagesV l) (Classical.propDecidable _)) := by
  unfold impl_ValidPages
  unfold impl_ValidPages_l1
  rw [loop_all l.length (PageV l) (fun s => impl_ValidPages_l1_b l l l.length s) (.inl l) (.inr false) (fun i hi hp => by
      obtain ⟨x, hx⟩ := get_at hi
      obtain ⟨a, b, c, e⟩ := hp x hx
      have c' : (x.2.length : Int) = 64 := by omega
      simp only [impl_ValidPages_l1_b, impl_isBlock, Int.ofNat_lt.2 hi, Int.natCast_nonneg, Int.toNat_natCast, hx, if_true, Option.bind_some, within_out, a, b, c', and_self, decide_true, not_true_eq_false, if_false, w1 (show i < 9223372036854775807 by omega)]
      by_cases h0 : (i : Int) > 0
      · rw [if_pos h0, wrap_in (by omega) (by omega), if_pos (by omega), show ((i : Int) - 1).toNat = i - 1 by omega]
        obtain ⟨y, hy⟩ := get_at (l := l) (show i - 1 < l.length by omega)
        rw [hy, Option.bind_some, if_neg (by have := e (by omega) y hy; omega)]
      · rw [if_neg h0]) (fun i hi hp => by
      obtain ⟨x, hx⟩ := get_at hi
      simp only [impl_ValidPages_l1_b, impl_isBlock, Int.ofNat_lt.2 hi, Int.natCast_nonneg, Int.toNat_natCast, hx, if_true, Option.bind_some, within_out, deq]
      by_cases a : 0 ≤ x.1 ∧ x.1 ≤ 255
      case neg => rw [if_pos a]
      rw [if_neg (by simpa using a)]
      by_cases h0 : (i : Int) > 0
      · rw [if_pos h0, wrap_in (by omega) (by omega), if_pos (by omega), show ((i : Int) - 1).toNat = i - 1 by omega]
        obtain ⟨y, hy⟩ := get_at (l := l) (show i - 1 < l.length by omega)
        rw [hy, Option.bind_some]
        by_cases e : x.1 ≤ y.1
        · rw [if_pos e]
        rw [if_neg e]
        by_cases c : (x.2.length : Int) = 64
        case neg => rw [if_pos c]
        exfalso; apply hp; intro x' hx'; rw [hx] at hx'; cases hx'
        exact ⟨a.1, a.2, by omega, fun _ y' hy' => by rw [hy] at hy'; cases hy'; omega⟩
      · rw [if_neg h0]
        by_cases c : (x.2.length : Int) = 64
        case neg => rw [if_pos c]
        exfalso; apply hp; intro x' hx'; rw [hx] at hx'; cases hx'
        exact ⟨a.1, a.2, by omega, fun h => by omega⟩) (by simp [impl_ValidPages_l1_b])]
  by_cases h5 : ∀ i, i < l.length → PageV l i
  · rw [if_pos h5]; simp only [Option.bind_some, Sum.elim_inl]; exact dI ⟨fun h => ⟨by omega, h5⟩, fun h => by have := h.1; omega⟩
  · rw [if_neg h5]; exact dF fun h => h5 h.2

def WithinV (s : DSuper) (l : List (Int × Str)) : Prop := ∀ x ∈ l, 2 + s.2.1 ≤ x.1 ∧ x.1 ≤ s.1 - 1
theorem l11Within_out (s : DSuper) (l : List (Int × Str)) (hs : SuperV s) (hl : l.length ≤ 1048576) : spec_l11Within s l = some (@decide (WithinV s l) (Classical.propDecidable _)) := by
  have hs' := hs
  obtain ⟨a1, a2, a3, a4, a5, _⟩ := hs'
  unfold spec_l11Within
  unfold spec_l11Within_l1
  rw [loop_mem l (fun x => 2 + s.2.1 ≤ x.1 ∧ x.1 ≤ s.1 - 1) (fun t => spec_l11Within_l1_b l s.1 s.2.1 s.2.2.1 s.2.2.2 t) (.inl ()) (.inr false) (fun i x hi hx hp => by
      have hx' := (List.getElem?_eq_some_iff.1 hx).2
      simp [spec_l11Within_l1_b, spec_l10Area, l00In_out, hi, hx', hp.1, hp.2, wrap_in (show -9223372036854775808 ≤ s.1 - 1 by omega) (by omega), wrap_in (show -9223372036854775808 ≤ 2 + s.2.1 by omega) (by omega), w1 (show i < 9223372036854775807 by omega)]) (fun i x hi hx hp => by
      have hx' := (List.getElem?_eq_some_iff.1 hx).2
      simp [spec_l11Within_l1_b, spec_l10Area, l00In_out, hi, hx', wrap_in (show -9223372036854775808 ≤ s.1 - 1 by omega) (by omega), wrap_in (show -9223372036854775808 ≤ 2 + s.2.1 by omega) (by omega)]
      intro a; omega) (by simp [spec_l11Within_l1_b])]
  by_cases h5 : ∀ x ∈ l, 2 + s.2.1 ≤ x.1 ∧ x.1 ≤ s.1 - 1
  · rw [if_pos h5]; exact dT h5
  · rw [if_neg h5]; exact dF h5
theorem inArea_out (s : DSuper) (l : List (Int × Str)) (hs : SuperV s) (hl : l.length ≤ 1048576) : impl_Super_inArea s l = some (@decide (WithinV s l) (Classical.propDecidable _)) := by
  have hs' := hs
  obtain ⟨a1, a2, a3, a4, a5, _⟩ := hs'
  have hA : impl_AreaBlock (s.1, s.2.1, s.2.2.1, s.2.2.2) = some (2 + s.2.1) := by
    unfold impl_AreaBlock
    rw [show (s.1, s.2.1, s.2.2.1, s.2.2.2) = s from rfl, iValidSuper_out]
    simp [hs, wrap_in (show -9223372036854775808 ≤ 2 + s.2.1 by omega) (by omega)]
  unfold impl_Super_inArea
  unfold slices_ContainsFunc_impl_Page_impl_Page__Super_inArea_c1 slices_IndexFunc_impl_Page_impl_Page__Super_inArea_c1 slices_IndexFunc_impl_Page_impl_Page__Super_inArea_c1_l1
  obtain ⟨r, hr, hx⟩ := loop_find l (fun x => 2 + s.2.1 ≤ x.1 ∧ x.1 ≤ s.1 - 1) (fun t => slices_IndexFunc_impl_Page_impl_Page__Super_inArea_c1_l1_b l s.1 s.2.1 s.2.2.1 s.2.2.2 l.length t) () (fun i x hi hx hp => by
      have hx' := (List.getElem?_eq_some_iff.1 hx).2
      simp [slices_IndexFunc_impl_Page_impl_Page__Super_inArea_c1_l1_b, impl_Super_inArea_c1, hA, within_out, hi, hx', hp.1, hp.2, wrap_in (show -9223372036854775808 ≤ s.1 - 1 by omega) (by omega), w1 (show i < 9223372036854775807 by omega)]) (fun i x hi hx hp => by
      have hx' := (List.getElem?_eq_some_iff.1 hx).2
      simp [slices_IndexFunc_impl_Page_impl_Page__Super_inArea_c1_l1_b, impl_Super_inArea_c1, hA, within_out, hi, hx', wrap_in (show -9223372036854775808 ≤ s.1 - 1 by omega) (by omega)]
      omega) (by simp [slices_IndexFunc_impl_Page_impl_Page__Super_inArea_c1_l1_b])
  rw [hr]
  rcases hx with ⟨rfl, h5⟩ | ⟨k, rfl, hk, h5⟩
  · simp; exact h5
  · simp [hk]; exact h5

def FitsV (s : DSuper) (n : Nat) : Prop := n ≤ 60 ∧ (n = 0 ∨ 1 + ((2 * n + 63) / 64 : Nat) + (n : Int) ≤ s.2.1)
theorem tableBlocks_out (n : Nat) (h : n ≤ 60) : impl_tableBlocks n = some (((2 * n + 63) / 64 : Nat) : Int) := by
  unfold impl_tableBlocks
  rw [wrap_in (n := 2 * (n : Int)) (by omega) (by omega), wrap_in (n := 2 * (n : Int) + 64) (by omega) (by omega), wrap_in (n := 2 * (n : Int) + 64 - 1) (by omega) (by omega)]
  rw [Int.tdiv_eq_ediv_of_nonneg (by omega), wrap_in (by omega) (by omega)]
  congr 1; omega
theorem l12Fits_out (s : DSuper) (n : Nat) : spec_l12Fits s n = some (@decide (FitsV s n) (Classical.propDecidable _)) := by
  unfold spec_l12Fits
  by_cases h0 : (n : Int) = 0
  · rw [if_pos h0]; exact dT ⟨by omega, .inl (by omega)⟩
  rw [if_neg h0]
  by_cases h1 : (n : Int) ≤ 60
  · rw [if_pos h1, spec_l11Blocks, show spec_l11Table n = some (((2 * n + 63) / 64 : Nat) : Int) from tableBlocks_out n (by omega)]
    simp only [Option.bind_some]
    rw [wrap_in (n := 1 + (((2 * n + 63) / 64 : Nat) : Int)) (by omega) (by omega), wrap_in (by omega) (by omega)]
    exact dI ⟨fun h => ⟨by omega, .inr h⟩, fun h => by rcases h.2 with h | h; omega; exact h⟩
  · rw [if_neg h1]; exact dF fun h => by have := h.1; omega
theorem fits_out (s : DSuper) (n : Nat) (hs : SuperV s) : impl_Super_fits s n = some (@decide (FitsV s n) (Classical.propDecidable _)) := by
  unfold impl_Super_fits
  obtain ⟨a1, a2, a3, a4, a5, _⟩ := hs
  by_cases h1 : (n : Int) ≤ 60
  · rw [if_pos h1, impl_RecordBlocks, within_out, Option.bind_some]
    by_cases h0 : n = 0
    · subst h0; rw [if_pos (by simp)]; exact dI ⟨fun _ => ⟨by omega, .inl rfl⟩, fun _ => by omega⟩
    rw [if_neg (by simp; omega), tableBlocks_out n (by omega)]
    simp only [Option.bind_some]
    rw [wrap_in (n := 1 + (((2 * n + 63) / 64 : Nat) : Int)) (by omega) (by omega), wrap_in (by omega) (by omega)]
    exact dI ⟨fun h => ⟨by omega, .inr h⟩, fun h => by rcases h.2 with h | h; omega; exact h⟩
  · rw [if_neg h1]; exact dF fun h => by have := h.1; omega

def PagerV (a : DPager) : Prop := DiskV a.1 ∧ ((a.1.2.1.length : Int) > 1 → a.1.2.2.2 = true) ∧ SuperV a.2.1 ∧ a.2.1.1 = (a.1.1.length : Int) ∧ (a.2.1.2.2.1 ≤ a.2.2.1 ∧ a.2.2.1 ≤ 1000000000000) ∧ (0 ≤ a.2.2.2.1 ∧ a.2.2.2.1 ≤ a.2.1.2.1) ∧ PagesV a.2.2.2.2.1 ∧ PagesV a.2.2.2.2.2 ∧ WithinV a.2.1 a.2.2.2.2.1 ∧ WithinV a.2.1 a.2.2.2.2.2 ∧ FitsV a.2.1 a.2.2.2.2.2.length

open Classical in
theorem l12Ok_p1_out (s : DSuper) (v4 : List Str) (v5 : List (Int × Str)) (v6 : Int) (v7 : Bool) (c d : Int) (l m : List (Int × Str)) (hs : SuperV s) (hl : l.length ≤ 1048576) (hm : m.length ≤ 1048576) :
    spec_l12Ok_p1 v4 v5 v6 v7 s.1 s.2.1 s.2.2.1 s.2.2.2 c d l m s.1 s.2.1 s.2.2.1 s.2.2.2 = some (@decide ((s.2.2.1 ≤ c ∧ c ≤ 1000000000000) ∧ (0 ≤ d ∧ d ≤ s.2.1) ∧ PagesV l ∧ PagesV m ∧ WithinV s l ∧ WithinV s m ∧ FitsV s m.length) (Classical.propDecidable _)) := by
  unfold spec_l12Ok_p1
  simp only [show (s.1, s.2.1, s.2.2.1, s.2.2.2) = s from rfl, l00In_out, l11Pages_out _ hl, l11Pages_out _ hm, l11Within_out s _ hs hl, l11Within_out s _ hs hm, l12Fits_out, Option.bind_some, deq]
  split
  · rename_i h; exact dF fun q => h q.1
  split
  · rename_i h; exact dF fun q => h q.2.1
  split
  · rename_i h; exact dF fun q => h q.2.2.1
  split
  · rename_i h; exact dF fun q => h q.2.2.2.1
  split
  · rename_i h; exact dF fun q => h q.2.2.2.2.1
  split
  · rename_i h; exact dF fun q => h q.2.2.2.2.2.1
  rename_i h1 h2 h3 h4 h5 h6
  exact dI ⟨fun q => ⟨Classical.not_not.1 h1, Classical.not_not.1 h2, Classical.not_not.1 h3, Classical.not_not.1 h4, Classical.not_not.1 h5, Classical.not_not.1 h6, q⟩, fun q => q.2.2.2.2.2.2⟩
open Classical in
theorem ValidPager_p1_out (s : DSuper) (v4 : List Str) (v5 : List (Int × Str)) (v6 : Int) (v7 : Bool) (c d : Int) (l m : List (Int × Str)) (hs : SuperV s) (hl : l.length ≤ 1048576) (hm : m.length ≤ 1048576) :
    impl_ValidPager_p1 v4 v5 v6 v7 s.1 s.2.1 s.2.2.1 s.2.2.2 c d l m = some (@decide (PagesV l ∧ PagesV m ∧ WithinV s l ∧ WithinV s m ∧ FitsV s m.length) (Classical.propDecidable _)) := by
  unfold impl_ValidPager_p1
  simp only [show (s.1, s.2.1, s.2.2.1, s.2.2.2) = s from rfl, ValidPages_out _ hl, ValidPages_out _ hm, inArea_out s _ hs hl, inArea_out s _ hs hm, fits_out s _ hs, Option.bind_some, deq]
  by_cases h1 : PagesV l
  case neg => rw [if_neg h1]; exact dF fun q => h1 q.1
  rw [if_pos h1]
  by_cases h2 : PagesV m
  case neg => rw [if_neg h2]; exact dF fun q => h2 q.2.1
  rw [if_pos h2]
  by_cases h3 : WithinV s l
  case neg => rw [if_neg h3]; exact dF fun q => h3 q.2.2.1
  rw [if_pos h3]
  by_cases h4 : WithinV s m
  case neg => rw [if_neg h4]; exact dF fun q => h4 q.2.2.2.1
  rw [if_pos h4]
  exact dI ⟨fun q => ⟨h1, h2, h3, h4, q⟩, fun q => q.2.2.2.2⟩

open Classical in
theorem l12Ok_out (a : DPager) (h : PagerIn a 1048576) : spec_l12Ok a = some (@decide (PagerV a) (Classical.propDecidable _)) := by
  unfold spec_l12Ok PagerV
  simp only [l09Ok_out, sValidSuper_out, Option.bind_some, deq, bind_some']
  by_cases h1 : DiskV a.1
  case neg => rw [if_pos h1]; exact dF fun q => h1 q.1
  rw [if_neg (by simpa using h1)]
  by_cases h3 : SuperV a.2.1
  case neg =>
    simp only [h3, not_false_eq_true, if_true]; split
    · split <;> exact dF fun q => q.2.2.1
    · exact dF fun q => q.2.2.1
  simp only [h3, not_true_eq_false, if_false]
  rw [l12Ok_p1_out _ _ _ _ _ _ _ _ _ h3 h.2.2.1 h.2.2.2]
  split
  · rename_i h4; split
    · rename_i h5; exact dF fun q => h5 (q.2.1 h4)
    · rename_i h5; split
      · rename_i h6; exact dF fun q => h6 q.2.2.2.1
      · rename_i h6; exact dI ⟨fun q => ⟨h1, fun _ => Classical.not_not.1 h5, trivial, Classical.not_not.1 h6, q⟩, fun q => q.2.2.2.2⟩
  · rename_i h4; split
    · rename_i h6; exact dF fun q => h6 q.2.2.2.1
    · rename_i h6; exact dI ⟨fun q => ⟨h1, fun r => absurd r h4, trivial, Classical.not_not.1 h6, q⟩, fun q => q.2.2.2.2⟩
open Classical in
theorem ValidPager_out (a : DPager) (h : PagerIn a 1048576) : impl_ValidPager a = some (@decide (PagerV a) (Classical.propDecidable _)) := by
  unfold impl_ValidPager PagerV
  simp only [superFits_out, within_out, Option.bind_some, deq, bind_some']
  by_cases h1 : DiskV a.1 ∧ SuperV a.2.1 ∧ a.2.1.1 = (a.1.1.length : Int)
  case neg => rw [if_pos h1]; exact dF fun q => h1 ⟨q.1, q.2.2.1, q.2.2.2.1⟩
  rw [if_neg (by simpa using h1), ValidPager_p1_out _ _ _ _ _ _ _ _ _ h1.2.1 h.2.2.1 h.2.2.2]
  by_cases h2 : a.2.1.2.2.1 ≤ a.2.2.1 ∧ a.2.2.1 ≤ 1000000000000
  case neg =>
    simp only [h2, not_false_eq_true, if_true]; split
    · split <;> exact dF fun q => q.2.2.2.2.1
    · exact dF fun q => q.2.2.2.2.1
  simp only [h2, not_true_eq_false, if_false]
  by_cases h3 : 0 ≤ a.2.2.2.1 ∧ a.2.2.2.1 ≤ a.2.1.2.1
  case neg =>
    simp only [h3, not_false_eq_true, if_true]; split
    · split <;> exact dF fun q => q.2.2.2.2.2.1
    · exact dF fun q => q.2.2.2.2.2.1
  simp only [h3, not_true_eq_false, if_false]
  split
  · rename_i h4; split
    · rename_i h5; exact dF fun q => h5 (q.2.1 h4)
    · rename_i h5; exact dI ⟨fun q => ⟨h1.1, fun _ => Classical.not_not.1 h5, h1.2.1, h1.2.2, ⟨trivial, trivial⟩, ⟨trivial, trivial⟩, q⟩, fun q => q.2.2.2.2.2.2⟩
  · rename_i h4; exact dI ⟨fun q => ⟨h1.1, fun r => absurd r h4, h1.2.1, h1.2.2, ⟨trivial, trivial⟩, ⟨trivial, trivial⟩, q⟩, fun q => q.2.2.2.2.2.2⟩

/-- Discard_okOf: bounds that data of the machine keep. -/
theorem pagerOk_of {a : DPager} (h : Gd.ok a) : PagerOk a := ⟨strsOk_of h.1.1, putsOk_of h.1.2.1, putsOk_of h.2.2.2.2.1, putsOk_of h.2.2.2.2.2⟩

theorem pg_eta (p : DPager) : ((p.1.1, p.1.2.1, p.1.2.2.1, p.1.2.2.2), (p.2.1.1, p.2.1.2.1, p.2.1.2.2.1, p.2.1.2.2.2), p.2.2.1, p.2.2.2.1, p.2.2.2.2.1, p.2.2.2.2.2) = p := rfl
end Go.Proofs.TM
