import Derived.Test.YtljphigfgffeeaaGreatDoorWA
import Derived.Test.YtljphigfgffeeaaGreatDoorTReadR
namespace Go.Proofs.TM
open Go Go.Proofs
set_option linter.unusedVariables false
set_option linter.unusedSimpArgs false
set_option maxHeartbeats 1000000
theorem loop_meas {σ ρ : Type} {f : σ → Option (σ ⊕ ρ)} (P : ρ → Prop) (m : σ → Nat) (I : σ → Prop)
  (h : ∀ s, I s → (∃ r, f s = some (.inr r) ∧ P r) ∨ ∃ s', f s = some (.inl s') ∧ I s' ∧ m s' < m s) : ∀ (n : Nat) (s : σ), m s = n → I s → ∃ r, loopO f s = some r ∧ P r := by
 intro n
 induction n using Nat.strongRecOn with
 | _ n ih =>
  intro s hm hs
  rcases h s hs with ⟨r, h1, hp⟩ | ⟨s', h1, h2, h3⟩
  ·exact ⟨r, by rw [loopO_unfold, h1]; rfl, hp⟩
  ·obtain ⟨r, hr, hp⟩ := ih (m s') (by omega) s' rfl h2
   exact ⟨r, by rw [loopO_unfold, h1]; exact hr, hp⟩
def pgF (l : List (Int × Str)) (k : Int) : Option (Int × Str) := l.find? (fun p => decide (p.1 = k))
theorem find_at {l : List (Int × Str)} {k : Int} {i : Nat} {x : Int × Str} (hx : l[i]? = some x) (hk : x.1 = k) (hb : ∀ j y, j < i → l[j]? = some y → y.1 ≠ k) : pgF l k = some x := by
 unfold pgF
 rw [List.find?_eq_some_iff_append]
 have hi := (List.getElem?_eq_some_iff.1 hx).1
 have hx' := (List.getElem?_eq_some_iff.1 hx).2
 refine ⟨by simpa using hk, l.take i, l.drop (i + 1), ?_, fun a ha => ?_⟩
 ·rw [← hx', List.getElem_cons_drop, List.take_append_drop]
 ·obtain ⟨j, hj, rfl⟩ := List.mem_iff_getElem.1 ha
  simp only [List.length_take] at hj
  have := hb j l[j] (by omega) (List.getElem?_eq_getElem (by omega))
  simpa using this
theorem find_no {l : List (Int × Str)} {k : Int} (hb : ∀ (j : Nat) (y : Int × Str), l[j]? = some y → y.1 ≠ k) : pgF l k = none := by
 unfold pgF
 rw [List.find?_eq_none]
 intro x hx
 obtain ⟨j, hj, rfl⟩ := List.mem_iff_getElem.1 hx
 simpa using hb j _ (List.getElem?_eq_getElem hj)
theorem PagesV.rise {l : List (Int × Str)} (h : PagesV l) : ∀ (j i : Nat) (x y : Int × Str), i < j → l[i]? = some x → l[j]? = some y → x.1 < y.1 := by
 intro j
 induction j with
 | zero => intro i x y hij; omega
 | succ j ih =>
  intro i x y hij hx hy
  have hj := (List.getElem?_eq_some_iff.1 hy).1
  obtain ⟨z, hz⟩ := get_at (l := l) (i := j) (by omega)
  have h1 := (h.2 (j + 1) hj y hy).2.2.2 (by omega) z (by simpa using hz)
  by_cases hi : i = j
  ·subst hi; rw [hx] at hz; cases hz; exact h1
  ·have := ih i x z (by omega) hx hz
   omega
theorem half {i j : Nat} (h : i + j ≤ 4194304) : IntKind.i64.wrap (shrV .u64 (IntKind.u64.wrap (IntKind.i64.wrap ((i : Int) + j))) 1) = (((i + j) / 2 : Nat) : Int) := by
 rw [wrap_in (n := (i : Int) + j) (by omega) (by omega)]
 have e : IntKind.u64.wrap ((i : Int) + j) = (i : Int) + j := by simp [IntKind.wrap, IntKind.bits, IntKind.signed]; omega
 rw [e]
 have e2 : shrV .u64 ((i : Int) + j) 1 = ((i : Int) + j) / 2 := by
  unfold shrV
  rw [Int.fdiv_eq_ediv_of_nonneg _ (by exact Int.pow_nonneg (by omega))]
  rfl
 rw [e2, wrap_in (by omega) (by omega)]
 omega
theorem pageAt_out (l : List (Int × Str)) (k : Int) (hv : PagesV l) (hl : l.length ≤ 1048576) : ∃ (i : Nat), i ≤ l.length ∧ (∀ j y, j < i → l[j]? = some y → y.1 < k) ∧ (∀ j y, i ≤ j → l[j]? = some y → k ≤ y.1) ∧
  impl_pageAt l k = some ((i : Int), (pgF l k).isSome) ∧ (∀ x, pgF l k = some x → l[i]? = some x) := by
 unfold impl_pageAt slices_BinarySearchFunc_impl_Page_impl_Page_int64__pageAt_c1 slices_BinarySearchFunc_impl_Page_impl_Page_int64__pageAt_c1_l1
 have hc : ∀ x : Int × Str, impl_pageAt_c1 x k = some (if x.1 < k then -1 else if x.1 > k then 1 else 0) := fun x => by
  simp only [impl_pageAt_c1, cmp_Compare_int64, cmp_isNaN_int64, Option.bind_some]
  simp
  split
  ·rfl
  ·split <;> rfl
 obtain ⟨r, hr, i, rfl, hi, h1, h2⟩ := loop_meas (f := fun s => slices_BinarySearchFunc_impl_Page_impl_Page_int64__pageAt_c1_l1_b l k (l.length : Int) s.1 s.2)
  (fun r => ∃ i : Nat, r = (l, k, (l.length : Int), (i : Int)) ∧ i ≤ l.length ∧ (∀ j y, j < i → l[j]? = some y → y.1 < k) ∧ (∀ j y, i ≤ j → l[j]? = some y → k ≤ y.1))
  (fun s => (s.2 - s.1).toNat) (fun s => ∃ i j : Nat, s = ((i : Int), (j : Int)) ∧ i ≤ j ∧ j ≤ l.length ∧ (∀ m y, m < i → l[m]? = some y → y.1 < k) ∧ (∀ m y, j ≤ m → l[m]? = some y → k ≤ y.1))
  (fun s hs => by
   obtain ⟨i, j, rfl, hij, hjl, ha, hb⟩ := hs
   simp only [slices_BinarySearchFunc_impl_Page_impl_Page_int64__pageAt_c1_l1_b]
   by_cases hlt : i < j
   ·rw [if_pos (by omega), half (by omega), if_pos (by omega), Int.toNat_natCast]
    obtain ⟨x, hx⟩ := get_at (l := l) (i := (i + j) / 2) (by omega)
    rw [hx, Option.bind_some, hc, Option.bind_some]
    right
    by_cases hk : x.1 < k
    ·rw [if_pos hk, if_pos (by omega), w1 (by omega)]
     refine ⟨_, rfl, ⟨(i + j) / 2 + 1, j, by simp, by omega, hjl, fun m y hm hy => ?_, hb⟩, by simp only; omega⟩
     by_cases hmi : m = (i + j) / 2
     ·subst hmi; rw [hx] at hy; cases hy; exact hk
     ·have := hv.rise ((i + j) / 2) m y x (by omega) hy hx
      omega
    ·rw [if_neg (by rw [if_neg hk]; split <;> omega)]
     refine ⟨_, rfl, ⟨i, (i + j) / 2, by simp, by omega, by omega, ha, fun m y hm hy => ?_⟩, by simp only; omega⟩
     by_cases hmi : m = (i + j) / 2
     ·subst hmi; rw [hx] at hy; cases hy; omega
     ·have := hv.rise m ((i + j) / 2) x y (by omega) hx hy
      omega
   ·rw [if_neg (by omega)]
    have : i = j := by omega
    subst this
    exact .inl ⟨_, rfl, i, rfl, hjl, ha, hb⟩) _ (0, (l.length : Int)) rfl ⟨0, l.length, rfl, by omega, Nat.le_refl _, fun m y hm => by omega, fun m y hm hy => by have := (List.getElem?_eq_some_iff.1 hy).1; omega⟩
 refine ⟨i, hi, h1, h2, ?_⟩
 rw [hr, Option.bind_some]
 simp only
 by_cases hn : i < l.length
 ·obtain ⟨x, hx⟩ := get_at hn
  rw [if_pos (by omega), if_pos (by omega), Int.toNat_natCast, hx, Option.bind_some, hc, Option.bind_some, Option.bind_some]
  have hxk := h2 i x (Nat.le_refl _) hx
  by_cases hk : x.1 = k
  ·have hf : pgF l k = some x := find_at hx hk fun j y hj hy => by have := h1 j y hj hy; omega
   rw [hf]
   refine ⟨by simp [hk], fun z hz => hz ▸ rfl⟩
  ·have hf : pgF l k = none := find_no fun j y hy => by
    by_cases hj : j < i
    ·have := h1 j y hj hy; omega
    ·by_cases hji : j = i
     ·subst hji; rw [hx] at hy; cases hy; exact hk
     ·have := hv.rise j i x y (by omega) hx hy
      omega
   rw [hf]
   refine ⟨?_, fun z hz => by cases hz⟩
   rw [if_neg (by omega), if_pos (by omega)]
   simp
 ·rw [if_neg (by omega), Option.bind_some]
  have hf : pgF l k = none := find_no fun j y hy => by
   have hjl := (List.getElem?_eq_some_iff.1 hy).1
   have := h1 j y (by omega) hy; omega
  rw [hf]
  exact ⟨rfl, fun z hz => by cases hz⟩
end Go.Proofs.TM
namespace Go.Proofs.TM
open Go Go.Proofs
set_option linter.unusedVariables false
set_option linter.unusedSimpArgs false
set_option maxHeartbeats 1000000
theorem loop_back {α ρ : Type} (p : α → Bool) (f : Int → Option (Int ⊕ ρ)) (rN : ρ) (rF : α → ρ) (h3 : f (-1) = some (.inr rN)) : ∀ (m : Nat) (l : List α), l.length = m →
  (∀ (i : Nat) x, l[i]? = some x → p x = false → f (i : Int) = some (.inl ((i : Int) - 1))) →
  (∀ (i : Nat) x, l[i]? = some x → p x = true → f (i : Int) = some (.inr (rF x))) →
  loopO f ((m : Int) - 1) = some (match l.reverse.find? p with | some x => rF x | none => rN) := by
 intro m
 induction m with
 | zero =>
  intro l hl h1 h2
  obtain rfl := List.eq_nil_of_length_eq_zero hl
  rw [loopO_unfold, show ((0 : Nat) : Int) - 1 = -1 by omega, h3]; rfl
 | succ m ih =>
  intro l hl h1 h2
  obtain ⟨l', x, rfl⟩ : ∃ l' x, l = l' ++ [x] := by
   have := List.dropLast_concat_getLast (l := l) (by intro h; subst h; simp at hl)
   exact ⟨_, _, this.symm⟩
  have hl' : l'.length = m := by simpa using hl
  have hx : (l' ++ [x])[m]? = some x := by rw [← hl']; simp
  rw [loopO_unfold, show ((m + 1 : Nat) : Int) - 1 = (m : Int) by omega, List.reverse_append]
  simp only [List.reverse_cons, List.reverse_nil, List.nil_append, List.cons_append, List.find?_cons]
  cases hp : p x with
  | true => rw [h2 m x hx hp]; rfl
  | false =>
   rw [h1 m x hx hp]
   simp only [Option.bind_some, Sum.elim_inl]
   refine ih l' hl' (fun i y hy hpy => h1 i y ?_ hpy) (fun i y hy hpy => h2 i y ?_ hpy)
   ·rw [List.getElem?_append_left (List.getElem?_eq_some_iff.1 hy).1]; exact hy
   ·rw [List.getElem?_append_left (List.getElem?_eq_some_iff.1 hy).1]; exact hy
theorem l09Read_out (d : DDisk) (k : Int) (h : d.2.1.length ≤ 1048576) : spec_l09Read d k = readD d k := by
 unfold spec_l09Read spec_l09Read_l1 readD
 rw [wrap_in (by omega) (by omega), if_pos (by omega)]
 rw [loop_back (fun p : Int × Str => decide (p.1 = k)) (fun s => spec_l09Read_l1_b d.1 d.2.1 d.2.2.1 d.2.2.2 k s) (.inl (d.1, d.2.1, d.2.2.1, d.2.2.2, k)) (fun x => .inr x.2) (by simp [spec_l09Read_l1_b]) d.2.1.length d.2.1 rfl (fun i x hx hp => ?_) (fun i x hx hp => ?_)]
 ·rw [Option.bind_some]
  cases hf : d.2.1.reverse.find? (fun p => decide (p.1 = k)) with
  | some p => rfl
  | none =>
   simp only [Sum.elim_inl]
   split
   ·cases d.1[k.toNat]? <;> rfl
   ·rfl
 ·have hi := (List.getElem?_eq_some_iff.1 hx).1
  have hp' : ¬ x.1 = k := by simpa using hp
  simp only [spec_l09Read_l1_b]
  rw [if_pos (by omega), if_pos (by omega), Int.toNat_natCast, hx, Option.bind_some, if_neg hp', wrap_in (by omega) (by omega)]
 ·have hi := (List.getElem?_eq_some_iff.1 hx).1
  have hp' : x.1 = k := by simpa using hp
  simp only [spec_l09Read_l1_b]
  rw [if_pos (by omega), if_pos (by omega), Int.toNat_natCast, hx, Option.bind_some, if_pos hp', if_pos (by omega), Option.bind_some]
def rdD (d : DDisk) (k : Int) : Str := match d.2.1.reverse.find? (fun p => decide (p.1 = k)) with
 | some p => p.2
 | none => d.1.getD k.toNat []
theorem readD_out (d : DDisk) (k : Int) (hd : DiskV d) (h0 : 0 ≤ k) (h1 : k < (d.1.length : Int)) : readD d k = some (rdD d k) ∧ (rdD d k).length = 64 := by
 obtain ⟨a1, a2, a3, a4, a5, a6, a7⟩ := hd
 unfold readD rdD
 rw [if_pos (by omega)]
 cases hf : d.2.1.reverse.find? (fun p => decide (p.1 = k)) with
 | some p =>
  exact ⟨rfl, (a7 p (by have := List.mem_of_find?_eq_some hf; simpa using this)).2.2⟩
 | none =>
  simp only
  rw [if_pos h0]
  obtain ⟨x, hx⟩ := get_at (l := d.1) (i := k.toNat) (by omega)
  rw [List.getD_eq_getElem?_getD, hx]
  exact ⟨rfl, a6 x (List.mem_of_getElem? hx)⟩
end Go.Proofs.TM
namespace Go.Proofs.TM
open Go Go.Proofs
set_option linter.unusedVariables false
set_option linter.unusedSimpArgs false
set_option maxHeartbeats 1000000
theorem l11Find_out (l : List (Int × Str)) (k : Int) (h : l.length ≤ 1048576) : ∃ r, spec_l11Find l k = some r ∧ ((r = -1 ∧ pgF l k = none) ∨ ∃ (i : Nat) (x : Int × Str), r = i ∧ l[i]? = some x ∧ pgF l k = some x) := by
 unfold spec_l11Find spec_l11Find_l1
 obtain ⟨r, hr, hp⟩ := loop_ex (f := fun s => spec_l11Find_l1_b l k s) (fun r => (r = .inl () ∧ pgF l k = none) ∨ ∃ (i : Nat) (x : Int × Str), r = .inr (i : Int) ∧ l[i]? = some x ∧ pgF l k = some x) l.length
  (fun i s => s = (i : Int) ∧ ∀ j y, j < i → l[j]? = some y → y.1 ≠ k) (fun i s hi hs => by
   obtain ⟨rfl, hb⟩ := hs
   simp only [spec_l11Find_l1_b]
   by_cases hn : i < l.length
   ·obtain ⟨x, hx⟩ := get_at hn
    rw [if_pos (by omega), if_pos (by omega), Int.toNat_natCast, hx, Option.bind_some, w1 (by omega)]
    by_cases hk : x.1 = k
    ·rw [if_pos hk]; exact .inl ⟨_, rfl, .inr ⟨i, x, rfl, hx, find_at hx hk hb⟩⟩
    ·rw [if_neg hk]
     refine .inr ⟨hn, _, rfl, by omega, fun j y hj hy => ?_⟩
     by_cases hji : j = i
     ·subst hji; rw [hx] at hy; cases hy; exact hk
     ·exact hb j y (by omega) hy
   ·rw [if_neg (by omega)]
    exact .inl ⟨_, rfl, .inl ⟨rfl, find_no fun j y hy => hb j y (by have := (List.getElem?_eq_some_iff.1 hy).1; omega) hy⟩⟩) l.length 0 0 (by omega) ⟨rfl, fun j y hj => by omega⟩
 rw [hr, Option.bind_some]
 rcases hp with ⟨rfl, h1⟩ | ⟨i, x, rfl, h1, h2⟩
 ·exact ⟨-1, rfl, .inl ⟨rfl, h1⟩⟩
 ·exact ⟨i, rfl, .inr ⟨i, x, rfl, h1, h2⟩⟩
def comP (p : DPager) (k : Int) : Str := match pgF p.2.2.2.2.1 k with | some x => x.2 | none => rdD p.1 k
def getP (p : DPager) (k : Int) : Str := match pgF p.2.2.2.2.2 k with | some x => x.2 | none => comP p k
theorem pgF_len {l : List (Int × Str)} (hv : PagesV l) {k : Int} {x : Int × Str} (h : pgF l k = some x) : x.2.length = 64 := by
 have := List.mem_of_find?_eq_some h
 obtain ⟨i, hi, rfl⟩ := List.mem_iff_getElem.1 this
 exact (hv.2 i hi _ (List.getElem?_eq_getElem hi)).2.2.1
theorem comP_len (p : DPager) (k : Int) (hp : PagerV p) (h0 : 0 ≤ k) (h1 : k < (p.1.1.length : Int)) : (comP p k).length = 64 := by
 unfold comP
 split
 ·rename_i x hx; exact pgF_len hp.2.2.2.2.2.2.1 hx
 ·exact (readD_out p.1 k hp.1 h0 h1).2
theorem getP_len (p : DPager) (k : Int) (hp : PagerV p) (h0 : 0 ≤ k) (h1 : k < (p.1.1.length : Int)) : (getP p k).length = 64 := by
 unfold getP
 split
 ·rename_i x hx; exact pgF_len hp.2.2.2.2.2.2.2.1 hx
 ·exact comP_len p k hp h0 h1
theorem committed_out (p : DPager) (k : Int) (hp : PagerV p) (hin : PagerIn p 1048576) (h0 : 0 ≤ k) (h1 : k < (p.1.1.length : Int)) : impl_Pager_committed p k = some (comP p k) := by
 unfold impl_Pager_committed impl_Disk_read comP
 obtain ⟨i, hi, a1, a2, a3, a4⟩ := pageAt_out p.2.2.2.2.1 k hp.2.2.2.2.2.2.1 hin.2.2.1
 rw [a3, Option.bind_some]
 cases hf : pgF p.2.2.2.2.1 k with
 | some x => simp [a4 x hf]
 | none => simp [(readD_out p.1 k hp.1 h0 h1).1]
theorem get_out (p : DPager) (k : Int) (hp : PagerV p) (hin : PagerIn p 1048576) (h0 : 0 ≤ k) (h1 : k < (p.1.1.length : Int)) : impl_Pager_get p k = some (getP p k) := by
 unfold impl_Pager_get getP
 obtain ⟨i, hi, a1, a2, a3, a4⟩ := pageAt_out p.2.2.2.2.2 k hp.2.2.2.2.2.2.2.1 hin.2.2.2
 rw [a3, Option.bind_some]
 cases hf : pgF p.2.2.2.2.2 k with
 | some x => simp [a4 x hf]
 | none => simp [committed_out p k hp hin h0 h1]
theorem l12Get_out (p : DPager) (k : Int) (hp : PagerV p) (hin : PagerIn p 1048576) (h0 : 0 ≤ k) (h1 : k < (p.1.1.length : Int)) : spec_l12Get p k = some (getP p k) := by
 unfold spec_l12Get getP comP
 obtain ⟨r, hr, hr2⟩ := l11Find_out p.2.2.2.2.2 k hin.2.2.2
 rw [hr, Option.bind_some]
 rcases hr2 with ⟨rfl, hf⟩ | ⟨i, x, rfl, hx, hf⟩
 ·rw [hf, if_neg (by omega)]
  obtain ⟨r, hr, hr2⟩ := l11Find_out p.2.2.2.2.1 k hin.2.2.1
  rw [hr, Option.bind_some]
  rcases hr2 with ⟨rfl, hf⟩ | ⟨i, x, rfl, hx, hf⟩
  ·rw [hf, if_neg (by omega), l09Read_out _ _ hin.2.1, (readD_out p.1 k hp.1 h0 h1).1]; rfl
  ·rw [hf, if_pos (by omega), if_pos (by omega), Int.toNat_natCast, hx]; rfl
 ·rw [hf, if_pos (by omega), if_pos (by omega), Int.toNat_natCast, hx]; rfl
end Go.Proofs.TM
namespace Go.Proofs.TM
open Go Go.Proofs
set_option linter.unusedVariables false
set_option linter.unusedSimpArgs false
set_option maxHeartbeats 1000000
def areaK (p : DPager) : Int := 2 + p.2.1.2.1
theorem area_in {p : DPager} (hp : PagerV p) : 10 ≤ areaK p ∧ areaK p < (p.1.1.length : Int) - 1 ∧ (p.1.1.length : Int) ≤ 256 ∧ p.2.1.1 = (p.1.1.length : Int) := by
 have h := hp.2.2.1
 obtain ⟨a1, a2, a3, a4, a5, _⟩ := h
 have := hp.2.2.2.1
 unfold areaK
 omega
theorem l10Area_out (p : DPager) (hp : PagerV p) : spec_l10Area p.2.1 = some (areaK p) := by
 have := area_in hp
 unfold spec_l10Area
 rw [wrap_in (by unfold areaK at this; omega) (by unfold areaK at this; omega)]; rfl
theorem iArea_out (p : DPager) (hp : PagerV p) : impl_Pager_area p = some (areaK p) := by
 have := area_in hp
 unfold impl_Pager_area
 rw [wrap_in (by unfold areaK at this; omega) (by unfold areaK at this; omega)]; rfl
theorem isData_out (p : DPager) (hp : PagerV p) (k n : Int) (hn : 1 ≤ n) (hn' : n ≤ 1048576) : impl_Pager_isData p k n = some (decide (areaK p < k ∧ k ≤ (p.1.1.length : Int) - n)) := by
 have := area_in hp
 unfold impl_Pager_isData
 rw [iArea_out p hp, Option.bind_some, wrap_in (n := p.2.1.1 - n) (by omega) (by omega)]
 by_cases h1 : k > areaK p
 ·rw [if_pos h1]
  by_cases h2 : n ≤ p.2.1.1
  ·rw [if_pos h2]; exact dI (by omega)
  ·rw [if_neg h2]; exact dF (by omega)
 ·rw [if_neg h1]; exact dF (by omega)
end Go.Proofs.TM
namespace Go.Proofs.TM
open Go Go.Proofs
set_option linter.unusedVariables false
set_option linter.unusedSimpArgs false
set_option maxHeartbeats 1000000
def areaP (p : DPager) : Str := getP p (areaK p)
theorem areaP_len {p : DPager} (hp : PagerV p) : (areaP p).length = 64 := by
 have := area_in hp
 exact getP_len p _ hp (by omega) (by omega)
theorem l13Area_out (p : DPager) (hp : PagerV p) (hin : PagerIn p 1048576) : spec_l13Area p = some (areaP p) := by
 have := area_in hp
 unfold spec_l13Area
 rw [l10Area_out p hp, Option.bind_some, l12Get_out p _ hp hin (by omega) (by omega)]; rfl
end Go.Proofs.TM
namespace Go.Proofs.TM
open Go Go.Proofs
set_option linter.unusedVariables false
set_option linter.unusedSimpArgs false
set_option maxHeartbeats 1000000
theorem l13Data_out (p : DPager) (hp : PagerV p) (k n : Int) (hn : -9223372036854775808 ≤ n) (hn' : n ≤ 9223372036854775807) : spec_l13Data p k n = some (decide (1 ≤ n ∧ n ≤ 256 ∧ areaK p < k ∧ k ≤ (p.1.1.length : Int) - n)) := by
 have := area_in hp
 unfold spec_l13Data spec_l00In spec_l13First
 rw [l10Area_out p hp]
 simp only [Option.bind_some]
 by_cases h1 : 1 ≤ n
 ·by_cases h2 : n ≤ 256
  ·rw [wrap_in (n := areaK p + 1) (by omega) (by omega), wrap_in (n := p.2.1.1 - 1) (by omega) (by omega)]
   by_cases h3 : areaK p + 1 ≤ k
   ·by_cases h4 : k ≤ p.2.1.1 - 1
    ·rw [wrap_in (n := k + n) (by omega) (by omega)]
     by_cases h5 : k + n ≤ p.2.1.1
     ·simp [h1, h2, h3, h4, h5]; omega
     ·simp [h1, h2, h3, h4, h5]; omega
    ·simp [h1, h2, h3, h4]; omega
   ·simp [h1, h2, h3]; omega
  ·simp [h1, h2]
 ·simp [h1]
end Go.Proofs.TM
namespace Go.Proofs.TM
open Go Go.Proofs
set_option linter.unusedVariables false
set_option linter.unusedSimpArgs false
set_option maxHeartbeats 1000000
def bitP (area : Str) (k : Int) : Bool := decide (bitV .and .u8 (shrV .u8 (((area.getD (4 + Int.tdiv k 8).toNat 0).toNat : Nat) : Int) (Int.tmod k 8)) 1 = 1)
theorem tdm {k : Int} (h0 : 0 ≤ k) (h1 : k ≤ 300) : 0 ≤ Int.tdiv k 8 ∧ Int.tdiv k 8 = k / 8 ∧ 0 ≤ Int.tmod k 8 ∧ Int.tmod k 8 < 8 := by
 rw [Int.tdiv_eq_ediv_of_nonneg h0, Int.tmod_eq_emod_of_nonneg h0]; omega
theorem l13Bit_out (area : Str) (k : Int) (ha : area.length = 64) (h0 : 0 ≤ k) (h1 : k ≤ 300) : spec_l13Bit area k = some (bitP area k) := by
 obtain ⟨a, b, c, d⟩ := tdm h0 h1
 unfold spec_l13Bit bitP
 rw [wrap_in (n := Int.tdiv k 8) (by omega) (by omega), wrap_in (n := 4 + Int.tdiv k 8) (by omega) (by omega), if_pos (by omega)]
 obtain ⟨x, hx⟩ := get_at (l := area) (i := (4 + Int.tdiv k 8).toNat) (by omega)
 have hu : IntKind.u64.wrap (Int.tmod k 8) = Int.tmod k 8 := by simp [IntKind.wrap, IntKind.bits, IntKind.signed]; omega
 rw [hx, Option.bind_some, hu, if_neg (by omega), List.getD_eq_getElem?_getD, hx]
 rfl
theorem allocated_out (p : DPager) (hp : PagerV p) (hin : PagerIn p 1048576) (k : Int) (h0 : areaK p < k) (h1 : k < (p.1.1.length : Int)) : impl_Pager_allocated p k = some (bitP (areaP p) k) := by
 have ha := area_in hp
 have hl := areaP_len hp
 unfold impl_Pager_allocated bitP
 rw [isData_out p hp k 1 (by omega) (by omega), Option.bind_some, if_pos (by simp; omega), iArea_out p hp, Option.bind_some, get_out p _ hp hin (by omega) (by omega), Option.bind_some]
 obtain ⟨a, b, c, d⟩ := tdm (k := k) (by omega) (by omega)
 rw [wrap_in (n := Int.tdiv k 8) (by omega) (by omega), wrap_in (n := 4 + Int.tdiv k 8) (by omega) (by omega), if_pos (by omega)]
 obtain ⟨x, hx⟩ := get_at (l := areaP p) (i := (4 + Int.tdiv k 8).toNat) (by omega)
 rw [show getP p (areaK p) = areaP p from rfl, hx, Option.bind_some, if_neg (by omega), List.getD_eq_getElem?_getD, hx]
 rfl
end Go.Proofs.TM
