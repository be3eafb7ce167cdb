/- Pages: finding them; the contents of a page of a pager. -/
import Derived.Test.YtljphigfgffeeaaLPageAt
import Derived.Test.YtljphigfgffeeaaLRead
namespace Go.Proofs.TM
open Go Go.Proofs
set_option linter.unusedVariables false
set_option linter.unusedSimpArgs false
set_option maxHeartbeats 1000000

theorem l11Find_out (l : List (Int × Str)) (k : Int) (h : l.length ≤ 1048576) : ∃ r, spec_l11Find l k = some r ∧ ((r = -1 ∧ pgF l k = none) ∨ ∃ (i : Nat) (x : Int × Str), r = i ∧ l[i]? = some x ∧ pgF l k = some x) := by
  unfold spec_l11Find spec_l11Find_l1
  obtain ⟨r, hr, hp⟩ := loop_ex (f := fun s => spec_l11Find_l1_b l k s) (fun r => (r = .inl () ∧ pgF l k = none) ∨ ∃ (i : Nat) (x : Int × Str), r = .inr (i : Int) ∧ l[i]? = some x ∧ pgF l k = some x) l.length
    (fun i s => s = (i : Int) ∧ ∀ j y, j < i → l[j]? = some y → y.1 ≠ k) (fun i s hi hs => by
      obtain ⟨rfl, hb⟩ := hs
      simp only [spec_l11Find_l1_b]
      by_cases hn : i < l.length
      · obtain ⟨x, hx⟩ := get_at hn
        rw [if_pos (by omega), if_pos (by omega), Int.toNat_natCast, hx, Option.bind_some, w1 (by omega)]
        by_cases hk : x.1 = k
        · rw [if_pos hk]; exact .inl ⟨_, rfl, .inr ⟨i, x, rfl, hx, find_at hx hk hb⟩⟩
        · rw [if_neg hk]
          refine .inr ⟨hn, _, rfl, by omega, fun j y hj hy => ?_⟩
          by_cases hji : j = i
          · subst hji; rw [hx] at hy; cases hy; exact hk
          · exact hb j y (by omega) hy
      · rw [if_neg (by omega)]
        exact .inl ⟨_, rfl, .inl ⟨rfl, find_no fun j y hy => hb j y (by have := (List.getElem?_eq_some_iff.1 hy).1; omega) hy⟩⟩) l.length 0 0 (by omega) ⟨rfl, fun j y hj => by omega⟩
  rw [hr, Option.bind_some]
  rcases hp with ⟨rfl, h1⟩ | ⟨i, x, rfl, h1, h2⟩
  · exact ⟨-1, rfl, .inl ⟨rfl, h1⟩⟩
  · exact ⟨i, rfl, .inr ⟨i, x, rfl, h1, h2⟩⟩

/-- The contents of a page without the transaction; with it. -/
def comP (p : DPager) (k : Int) : Str := match pgF p.2.2.2.2.1 k with | some x => x.2 | none => rdD p.1 k
def getP (p : DPager) (k : Int) : Str := match pgF p.2.2.2.2.2 k with | some x => x.2 | none => comP p k

theorem pgF_len {l : List (Int × Str)} (hv : PagesV l) {k : Int} {x : Int × Str} (h : pgF l k = some x) : x.2.length = 64 := by
  have := List.mem_of_find?_eq_some h
  obtain ⟨i, hi, rfl⟩ := List.mem_iff_getElem.1 this
  exact (hv.2 i hi _ (List.getElem?_eq_getElem hi)).2.2.1

theorem comP_len (p : DPager) (k : Int) (hp : PagerV p) (h0 : 0 ≤ k) (h1 : k < (p.1.1.length : Int)) : (comP p k).length = 64 := by
  unfold comP
  split
  · rename_i x hx; exact pgF_len hp.2.2.2.2.2.2.1 hx
  · exact (readD_out p.1 k hp.1 h0 h1).2
theorem getP_len (p : DPager) (k : Int) (hp : PagerV p) (h0 : 0 ≤ k) (h1 : k < (p.1.1.length : Int)) : (getP p k).length = 64 := by
  unfold getP
  split
  · rename_i x hx; exact pgF_len hp.2.2.2.2.2.2.2.1 hx
  · exact comP_len p k hp h0 h1

theorem committed_out (p : DPager) (k : Int) (hp : PagerV p) (hin : PagerIn p 1048576) (h0 : 0 ≤ k) (h1 : k < (p.1.1.length : Int)) : impl_Pager_committed p k = some (comP p k) := by
  unfold impl_Pager_committed impl_Disk_read comP
  obtain ⟨i, hi, a1, a2, a3, a4⟩ := pageAt_out p.2.2.2.2.1 k hp.2.2.2.2.2.2.1 hin.2.2.1
  rw [a3, Option.bind_some]
  cases hf : pgF p.2.2.2.2.1 k with
  | some x => simp [a4 x hf]
  | none => simp [(readD_out p.1 k hp.1 h0 h1).1]
theorem get_out (p : DPager) (k : Int) (hp : PagerV p) (hin : PagerIn p 1048576) (h0 : 0 ≤ k) (h1 : k < (p.1.1.length : Int)) : impl_Pager_get p k = some (getP p k) := by
  unfold impl_Pager_get getP
  obtain ⟨i, hi, a1, a2, a3, a4⟩ := pageAt_out p.2.2.2.2.2 k hp.2.2.2.2.2.2.2.1 hin.2.2.2
  rw [a3, Option.bind_some]
  cases hf : pgF p.2.2.2.2.2 k with
  | some x => simp [a4 x hf]
  | none => simp [committed_out p k hp hin h0 h1]
theorem l12Get_out (p : DPager) (k : Int) (hp : PagerV p) (hin : PagerIn p 1048576) (h0 : 0 ≤ k) (h1 : k < (p.1.1.length : Int)) : spec_l12Get p k = some (getP p k) := by
  unfold spec_l12Get getP comP
  obtain ⟨r, hr, hr2⟩ := l11Find_out p.2.2.2.2.2 k hin.2.2.2
  rw [hr, Option.bind_some]
  rcases hr2 with ⟨rfl, hf⟩ | ⟨i, x, rfl, hx, hf⟩
  · rw [hf, if_neg (by omega)]
    obtain ⟨r, hr, hr2⟩ := l11Find_out p.2.2.2.2.1 k hin.2.2.1
    rw [hr, Option.bind_some]
    rcases hr2 with ⟨rfl, hf⟩ | ⟨i, x, rfl, hx, hf⟩
    · rw [hf, if_neg (by omega), l09Read_out _ _ hin.2.1, (readD_out p.1 k hp.1 h0 h1).1]; rfl
    · rw [hf, if_pos (by omega), if_pos (by omega), Int.toNat_natCast, hx]; rfl
  · rw [hf, if_pos (by omega), if_pos (by omega), Int.toNat_natCast, hx]; rfl
end Go.Proofs.TM
