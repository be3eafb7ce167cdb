/- Pages: where they are in a valid list. -/
import Derived.Test.YtljphigfgffeeaaLPager
namespace Go.Proofs.TM
open Go Go.Proofs
set_option linter.unusedVariables false
set_option linter.unusedSimpArgs false
set_option maxHeartbeats 1000000

theorem loop_meas {σ ρ : Type} {f : σ → Option (σ ⊕ ρ)} (P : ρ → Prop) (m : σ → Nat) (I : σ → Prop)
    (h : ∀ s, I s → (∃ r, f s = some (.inr r) ∧ P r) ∨ ∃ s', f s = some (.inl s') ∧ I s' ∧ m s' < m s) : ∀ (n : Nat) (s : σ), m s = n → I s → ∃ r, loopO f s = some r ∧ P r := by
  intro n
  induction n using Nat.strongRecOn with
  | _ n ih =>
    intro s hm hs
    rcases h s hs with ⟨r, h1, hp⟩ | ⟨s', h1, h2, h3⟩
    · exact ⟨r, by rw [loopO_unfold, h1]; rfl, hp⟩
    · obtain ⟨r, hr, hp⟩ := ih (m s') (by omega) s' rfl h2
      exact ⟨r, by rw [loopO_unfold, h1]; exact hr, hp⟩

/-- A page of a list, by its block. -/
def pgF (l : List (Int × Str)) (k : Int) : Option (Int × Str) := l.find? (fun p => decide (p.1 = k))

theorem find_at {l : List (Int × Str)} {k : Int} {i : Nat} {x : Int × Str} (hx : l[i]? = some x) (hk : x.1 = k) (hb : ∀ j y, j < i → l[j]? = some y → y.1 ≠ k) : pgF l k = some x := by
  unfold pgF
  rw [List.find?_eq_some_iff_append]
  have hi := (List.getElem?_eq_some_iff.1 hx).1
  have hx' := (List.getElem?_eq_some_iff.1 hx).2
  refine ⟨by simpa using hk, l.take i, l.drop (i + 1), ?_, fun a ha => ?_⟩
  · rw [← hx', List.getElem_cons_drop, List.take_append_drop]
  · obtain ⟨j, hj, rfl⟩ := List.mem_iff_getElem.1 ha
    simp only [List.length_take] at hj
    have := hb j l[j] (by omega) (List.getElem?_eq_getElem (by omega))
    simpa using this

theorem find_no {l : List (Int × Str)} {k : Int} (hb : ∀ (j : Nat) (y : Int × Str), l[j]? = some y → y.1 ≠ k) : pgF l k = none := by
  unfold pgF
  rw [List.find?_eq_none]
  intro x hx
  obtain ⟨j, hj, rfl⟩ := List.mem_iff_getElem.1 hx
  simpa using hb j _ (List.getElem?_eq_getElem hj)

/-- The blocks of a valid list rise. -/
theorem PagesV.rise {l : List (Int × Str)} (h : PagesV l) : ∀ (j i : Nat) (x y : Int × Str), i < j → l[i]? = some x → l[j]? = some y → x.1 < y.1 := by
  intro j
  induction j with
  | zero => intro i x y hij; omega
  | succ j ih =>
    intro i x y hij hx hy
    have hj := (List.getElem?_eq_some_iff.1 hy).1
    obtain ⟨z, hz⟩ := get_at (l := l) (i := j) (by omega)
    have h1 := (h.2 (j + 1) hj y hy).2.2.2 (by omega) z (by simpa using hz)
    by_cases hi : i = j
    · subst hi; rw [hx] at hz; cases hz; exact h1
    · have := ih i x z (by omega) hx hz
      omega

theorem half {i j : Nat} (h : i + j ≤ 4194304) : IntKind.i64.wrap (shrV .u64 (IntKind.u64.wrap (IntKind.i64.wrap ((i : Int) + j))) 1) = (((i + j) / 2 : Nat) : Int) := by
  rw [wrap_in (n := (i : Int) + j) (by omega) (by omega)]
  have e : IntKind.u64.wrap ((i : Int) + j) = (i : Int) + j := by simp [IntKind.wrap, IntKind.bits, IntKind.signed]; omega
  rw [e]
  have e2 : shrV .u64 ((i : Int) + j) 1 = ((i : Int) + j) / 2 := by
    unfold shrV
    rw [Int.fdiv_eq_ediv_of_nonneg _ (by exact Int.pow_nonneg (by omega))]
    rfl
  rw [e2, wrap_in (by omega) (by omega)]
  omega

/-- Where a block is, or would be, in a valid list. -/
theorem pageAt_out (l : List (Int × Str)) (k : Int) (hv : PagesV l) (hl : l.length ≤ 1048576) : ∃ (i : Nat), i ≤ l.length ∧ (∀ j y, j < i → l[j]? = some y → y.1 < k) ∧ (∀ j y, i ≤ j → l[j]? = some y → k ≤ y.1) ∧
    impl_pageAt l k = some ((i : Int), (pgF l k).isSome) ∧ (∀ x, pgF l k = some x → l[i]? = some x) := by
  unfold impl_pageAt slices_BinarySearchFunc_impl_Page_impl_Page_int64__pageAt_c1 slices_BinarySearchFunc_impl_Page_impl_Page_int64__pageAt_c1_l1
  have hc : ∀ x : Int × Str, impl_pageAt_c1 x k = some (if x.1 < k then -1 else if x.1 > k then 1 else 0) := fun x => by
    simp only [impl_pageAt_c1, cmp_Compare_int64, cmp_isNaN_int64, Option.bind_some]
    simp
    split
    · rfl
    · split <;> rfl
  obtain ⟨r, hr, i, rfl, hi, h1, h2⟩ := loop_meas (f := fun s => slices_BinarySearchFunc_impl_Page_impl_Page_int64__pageAt_c1_l1_b l k (l.length : Int) s.1 s.2)
    (fun r => ∃ i : Nat, r = (l, k, (l.length : Int), (i : Int)) ∧ i ≤ l.length ∧ (∀ j y, j < i → l[j]? = some y → y.1 < k) ∧ (∀ j y, i ≤ j → l[j]? = some y → k ≤ y.1))
    (fun s => (s.2 - s.1).toNat) (fun s => ∃ i j : Nat, s = ((i : Int), (j : Int)) ∧ i ≤ j ∧ j ≤ l.length ∧ (∀ m y, m < i → l[m]? = some y → y.1 < k) ∧ (∀ m y, j ≤ m → l[m]? = some y → k ≤ y.1))
    (fun s hs => by
      obtain ⟨i, j, rfl, hij, hjl, ha, hb⟩ := hs
      simp only [slices_BinarySearchFunc_impl_Page_impl_Page_int64__pageAt_c1_l1_b]
      by_cases hlt : i < j
      · rw [if_pos (by omega), half (by omega), if_pos (by omega), Int.toNat_natCast]
        obtain ⟨x, hx⟩ := get_at (l := l) (i := (i + j) / 2) (by omega)
        rw [hx, Option.bind_some, hc, Option.bind_some]
        right
        by_cases hk : x.1 < k
        · rw [if_pos hk, if_pos (by omega), w1 (by omega)]
          refine ⟨_, rfl, ⟨(i + j) / 2 + 1, j, by simp, by omega, hjl, fun m y hm hy => ?_, hb⟩, by simp only; omega⟩
          by_cases hmi : m = (i + j) / 2
          · subst hmi; rw [hx] at hy; cases hy; exact hk
          · have := hv.rise ((i + j) / 2) m y x (by omega) hy hx
            omega
        · rw [if_neg (by rw [if_neg hk]; split <;> omega)]
          refine ⟨_, rfl, ⟨i, (i + j) / 2, by simp, by omega, by omega, ha, fun m y hm hy => ?_⟩, by simp only; omega⟩
          by_cases hmi : m = (i + j) / 2
          · subst hmi; rw [hx] at hy; cases hy; omega
          · have := hv.rise m ((i + j) / 2) x y (by omega) hx hy
            omega
      · rw [if_neg (by omega)]
        have : i = j := by omega
        subst this
        exact .inl ⟨_, rfl, i, rfl, hjl, ha, hb⟩) _ (0, (l.length : Int)) rfl ⟨0, l.length, rfl, by omega, Nat.le_refl _, fun m y hm => by omega, fun m y hm hy => by have := (List.getElem?_eq_some_iff.1 hy).1; omega⟩
  refine ⟨i, hi, h1, h2, ?_⟩
  rw [hr, Option.bind_some]
  simp only
  by_cases hn : i < l.length
  · obtain ⟨x, hx⟩ := get_at hn
    rw [if_pos (by omega), if_pos (by omega), Int.toNat_natCast, hx, Option.bind_some, hc, Option.bind_some, Option.bind_some]
    have hxk := h2 i x (Nat.le_refl _) hx
    by_cases hk : x.1 = k
    · have hf : pgF l k = some x := find_at hx hk fun j y hj hy => by have := h1 j y hj hy; omega
      rw [hf]
      refine ⟨by simp [hk], fun z hz => hz ▸ rfl⟩
    · have hf : pgF l k = none := find_no fun j y hy => by
        by_cases hj : j < i
        · have := h1 j y hj hy; omega
        · by_cases hji : j = i
          · subst hji; rw [hx] at hy; cases hy; exact hk
          · have := hv.rise j i x y (by omega) hx hy
            omega
      rw [hf]
      refine ⟨?_, fun z hz => by cases hz⟩
      rw [if_neg (by omega), if_pos (by omega)]
      simp
  · rw [if_neg (by omega), Option.bind_some]
    have hf : pgF l k = none := find_no fun j y hy => by
      have hjl := (List.getElem?_eq_some_iff.1 hy).1
      have := h1 j y (by omega) hy; omega
    rw [hf]
    exact ⟨rfl, fun z hz => by cases hz⟩

end Go.Proofs.TM
