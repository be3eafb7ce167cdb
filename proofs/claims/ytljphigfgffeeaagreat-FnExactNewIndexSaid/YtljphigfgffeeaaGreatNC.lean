import Derived.Test.YtljphigfgffeeaaGreatNB
import Derived.Test.YtljphigfgffeeaaGreatNA
namespace Go.Proofs.TM
open Go Go.Proofs
set_option linter.unusedVariables false
set_option linter.unusedSimpArgs false
set_option maxHeartbeats 1000000
def runsF (bit : Int → Bool) (k0 : Int) : Nat → List (Int × Int) × Bool
 | 0 => ([], false)
 | i + 1 => if bit (k0 + i) = true then ((runsF bit k0 i).1, false)
  else if (runsF bit k0 i).2 = true then ((runsF bit k0 i).1.set ((runsF bit k0 i).1.length - 1) (((runsF bit k0 i).1.getD ((runsF bit k0 i).1.length - 1) (0, 0)).1, IntKind.i64.wrap (((runsF bit k0 i).1.getD ((runsF bit k0 i).1.length - 1) (0, 0)).2 + 1)), true)
  else ((runsF bit k0 i).1 ++ [(k0 + i, 1)], true)
theorem runsF_ok (bit : Int → Bool) (k0 : Int) : ∀ i, (runsF bit k0 i).1.length ≤ i ∧ ((runsF bit k0 i).2 = true → 0 < (runsF bit k0 i).1.length)
 | 0 => ⟨by simp [runsF], fun h => by simp [runsF] at h⟩
 | i + 1 => by
  obtain ⟨h1, h2⟩ := runsF_ok bit k0 i
  simp only [runsF]
  split
  ·exact ⟨by simp only; omega, fun h => by cases h⟩
  ·split
   ·rename_i hb ho
    exact ⟨by simp only [List.length_set]; omega, fun _ => by simp only [List.length_set]; exact h2 ho⟩
   ·exact ⟨by simp only [List.length_append, List.length_singleton]; omega, fun _ => by simp⟩
def runsP (p : DPager) : List (Int × Int) := (runsF (bitP (areaP p)) (areaK p + 1) (p.1.1.length - 1 - (areaK p).toNat)).1
theorem runsP_len {p : DPager} (hp : PagerV p) : (runsP p).length ≤ 256 := by
 have := (runsF_ok (bitP (areaP p)) (areaK p + 1) (p.1.1.length - 1 - (areaK p).toNat)).1
 have := area_in hp
 unfold runsP; omega
theorem happ16 (l : List (Int × Int)) (x : Int × Int) (h : l.length ≤ 1000) : appL 16 l (lit [x]) = some (l ++ [x]) := by unfold appL lit; rw [if_pos (by simp [maxRow]; omega)]
theorem l13Runs_out (p : DPager) (hp : PagerV p) (hin : PagerIn p 1048576) : spec_l13Runs p = some (runsP p) := by
 have ha := area_in hp
 have hl := areaP_len hp
 obtain ⟨a, hae⟩ : ∃ a : Nat, areaK p = a := ⟨(areaK p).toNat, by omega⟩
 unfold spec_l13Runs spec_l13First spec_l13Runs_l1
 rw [l13Area_out p hp hin, Option.bind_some, l10Area_out p hp, Option.bind_some, Option.bind_some, wrap_in (by omega) (by omega), bind_some']
 refine loop_some (p.1.1.length - 1 - a) (fun i s => s = (p.1.1, p.1.2.1, p.1.2.2.1, p.1.2.2.2, p.2.1.1, p.2.1.2.1, p.2.1.2.2.1, p.2.1.2.2.2, p.2.2.1, p.2.2.2.1, p.2.2.2.2.1, p.2.2.2.2.2, areaP p, (runsF (bitP (areaP p)) (areaK p + 1) i).1, (runsF (bitP (areaP p)) (areaK p + 1) i).2, areaK p + 1 + i)) (fun i s hi hs => ?_) (p.1.1.length - 1 - a) 0 _ (by omega) (by simp [runsF])
 subst hs
 simp only [spec_l13Runs_l1_b]
 obtain ⟨q1, q2⟩ := runsF_ok (bitP (areaP p)) (areaK p + 1) i
 by_cases hn : i < p.1.1.length - 1 - a
 ·rw [if_pos (by omega), l13Bit_out _ _ hl (by omega) (by omega), Option.bind_some]
  refine .inr ⟨hn, _, rfl.trans ?_, rfl⟩
  simp only [runsF]
  generalize runsF (bitP (areaP p)) (areaK p + 1) i = R at *
  by_cases hb : bitP (areaP p) (areaK p + 1 + i) = true
  ·simp only [hb, not_true_eq_false, if_false, if_true, spec_l13Runs_p2, Bool.not_true, Bool.false_eq_true, Option.bind_some]
   rw [wrap_in (n := areaK p + 1 + i + 1) (by omega) (by omega)]
   congr 3
   simp only [Int.natCast_add, Int.add_assoc]; rfl
  ·have hb' : bitP (areaP p) (areaK p + 1 + i) = false := by simpa using hb
   by_cases ho : R.2 = true
   ·have hpos := q2 ho
    obtain ⟨x, hx⟩ := get_at (l := R.1) (i := R.1.length - 1) (by omega)
    simp only [hb', Bool.false_eq_true, not_false_eq_true, if_true, if_false, ho, Bool.not_false]
    rw [wrap_in (n := (R.1.length : Int) - 1) (by omega) (by omega), if_pos (by omega), show ((R.1.length : Int) - 1).toNat = R.1.length - 1 by omega, hx, Option.bind_some, if_pos (by omega), Option.bind_some]
    simp only [spec_l13Runs_p2, not_true_eq_false, if_true, if_false, Option.bind_some, List.getD_eq_getElem?_getD, hx, Option.getD_some]
    rw [wrap_in (n := areaK p + 1 + i + 1) (by omega) (by omega)]
    congr 3
    simp only [Int.natCast_add, Int.add_assoc]; rfl
   ·have ho' : R.2 = false := by simpa using ho
    simp only [hb', Bool.false_eq_true, not_false_eq_true, if_true, if_false, ho', Bool.not_false, spec_l13Runs_p2]
    rw [happ16 _ _ (by omega), Option.bind_some, Option.bind_some]
    simp only
    rw [wrap_in (n := areaK p + 1 + i + 1) (by omega) (by omega)]
    congr 3
    simp only [Int.natCast_add, Int.add_assoc]; rfl
 ·have : i = p.1.1.length - 1 - a := by omega
  subst this
  rw [if_neg (by omega)]
  left
  unfold runsP
  rw [hae, Int.toNat_natCast]
theorem freeRuns_out (p : DPager) (hp : PagerV p) (hin : PagerIn p 1048576) : impl_Pager_freeRuns p = some (runsP p) := by
 have ha := area_in hp
 have hl := areaP_len hp
 obtain ⟨a, hae⟩ : ∃ a : Nat, areaK p = a := ⟨(areaK p).toNat, by omega⟩
 unfold impl_Pager_freeRuns impl_Pager_freeRuns_l1
 rw [iArea_out p hp, Option.bind_some, wrap_in (by omega) (by omega), bind_some']
 refine loop_some (p.1.1.length - 1 - a) (fun i s => s = (p.1.1, p.1.2.1, p.1.2.2.1, p.1.2.2.2, p.2.1.1, p.2.1.2.1, p.2.1.2.2.1, p.2.1.2.2.2, p.2.2.1, p.2.2.2.1, p.2.2.2.2.1, p.2.2.2.2.2, (runsF (bitP (areaP p)) (areaK p + 1) i).1, (runsF (bitP (areaP p)) (areaK p + 1) i).2, areaK p + 1 + i)) (fun i s hi hs => ?_) (p.1.1.length - 1 - a) 0 _ (by omega) (by simp [runsF])
 subst hs
 simp only [impl_Pager_freeRuns_l1_b]
 obtain ⟨q1, q2⟩ := runsF_ok (bitP (areaP p)) (areaK p + 1) i
 by_cases hn : i < p.1.1.length - 1 - a
 ·have hA : ((p.1.1, p.1.2.1, p.1.2.2.1, p.1.2.2.2), (p.2.1.1, p.2.1.2.1, p.2.1.2.2.1, p.2.1.2.2.2), p.2.2.1, p.2.2.2.1, p.2.2.2.2.1, p.2.2.2.2.2) = p := rfl
  rw [if_pos (by omega), hA, allocated_out p hp hin _ (by omega) (by omega), Option.bind_some]
  refine .inr ⟨hn, _, rfl.trans ?_, rfl⟩
  simp only [runsF]
  generalize runsF (bitP (areaP p)) (areaK p + 1) i = R at *
  by_cases hb : bitP (areaP p) (areaK p + 1 + i) = true
  ·simp only [hb, not_true_eq_false, if_false, if_true, impl_Pager_freeRuns_p2, Bool.not_true, Bool.false_eq_true, Option.bind_some]
   rw [wrap_in (n := areaK p + 1 + i + 1) (by omega) (by omega)]
   congr 3
   simp only [Int.natCast_add, Int.add_assoc]; rfl
  ·have hb' : bitP (areaP p) (areaK p + 1 + i) = false := by simpa using hb
   by_cases ho : R.2 = true
   ·have hpos := q2 ho
    obtain ⟨x, hx⟩ := get_at (l := R.1) (i := R.1.length - 1) (by omega)
    simp only [hb', Bool.false_eq_true, not_false_eq_true, if_true, if_false, ho, Bool.not_false]
    rw [wrap_in (n := (R.1.length : Int) - 1) (by omega) (by omega), if_pos (by omega), show ((R.1.length : Int) - 1).toNat = R.1.length - 1 by omega, hx, Option.bind_some, if_pos (by omega), Option.bind_some]
    simp only [List.getD_eq_getElem?_getD, hx, Option.getD_some]
    rw [wrap_in (n := areaK p + 1 + i + 1) (by omega) (by omega)]
    congr 3
    simp only [Int.natCast_add, Int.add_assoc]; rfl
   ·have ho' : R.2 = false := by simpa using ho
    simp only [hb', Bool.false_eq_true, not_false_eq_true, if_true, if_false, ho', Bool.not_false, impl_Pager_freeRuns_p2]
    rw [happ16 _ _ (by omega), Option.bind_some, Option.bind_some]
    simp only
    rw [wrap_in (n := areaK p + 1 + i + 1) (by omega) (by omega)]
    congr 3
    simp only [Int.natCast_add, Int.add_assoc]; rfl
 ·have : i = p.1.1.length - 1 - a := by omega
  subst this
  rw [if_neg (by omega)]
  left
  unfold runsP
  rw [hae, Int.toNat_natCast]
end Go.Proofs.TM
namespace Go.Proofs.TM
open Go Go.Proofs
set_option linter.unusedVariables false
set_option linter.unusedSimpArgs false
set_option maxHeartbeats 1000000
theorem runsF_bd (bit : Int → Bool) (k0 : Int) (h0 : 0 ≤ k0) (h1 : k0 ≤ 300) : ∀ i : Nat, i ≤ 300 → ∀ r ∈ (runsF bit k0 i).1, k0 ≤ r.1 ∧ 1 ≤ r.2 ∧ r.1 + r.2 ≤ k0 + i
 | 0, _, r, hr => by simp [runsF] at hr
 | i + 1, hi, r, hr => by
  have ih := runsF_bd bit k0 h0 h1 i (by omega)
  simp only [runsF] at hr
  split at hr
  ·have := ih r hr; omega
  ·split at hr
   ·rename_i hb ho
    rcases List.mem_or_eq_of_mem_set hr with h | h
    ·have := ih r h; omega
    ·have hpos := (runsF_ok bit k0 i).2 ho
     obtain ⟨x, hx⟩ := get_at (l := (runsF bit k0 i).1) (i := (runsF bit k0 i).1.length - 1) (by omega)
     have hxm := ih x (List.mem_of_getElem? hx)
     rw [List.getD_eq_getElem?_getD, hx, Option.getD_some] at h
     subst h
     simp only
     rw [wrap_in (by omega) (by omega)]
     omega
   ·simp only [List.mem_append, List.mem_singleton] at hr
    rcases hr with h | h
    ·have := ih r h; omega
    ·subst h; simp only; omega
theorem runsP_bd {p : DPager} (hp : PagerV p) : ∀ r ∈ runsP p, areaK p < r.1 ∧ 1 ≤ r.2 ∧ r.1 + r.2 ≤ (p.1.1.length : Int) := fun r hr => by
 have ha := area_in hp
 have := runsF_bd (bitP (areaP p)) (areaK p + 1) (by omega) (by omega) _ (by omega) r hr
 omega
def stepB (n : Int) (b r : Int × Int) : Int × Int := if r.2 ≥ n then (if b.2 = 0 then r else if r.2 < b.2 then r else b) else b
def bestP (l : List (Int × Int)) (n : Int) : Int × Int := l.foldl (stepB n) (0, 0)
theorem fold_mem (n : Int) : ∀ (l : List (Int × Int)) (b : Int × Int), l.foldl (stepB n) b = b ∨ (l.foldl (stepB n) b ∈ l ∧ n ≤ (l.foldl (stepB n) b).2)
 | [], b => .inl rfl
 | x :: l, b => by
  simp only [List.foldl_cons]
  have hs : stepB n b x = b ∨ (stepB n b x = x ∧ n ≤ x.2) := by
   unfold stepB
   split
   ·split
    ·exact .inr ⟨rfl, by omega⟩
    ·split
     ·exact .inr ⟨rfl, by omega⟩
     ·exact .inl rfl
   ·exact .inl rfl
  rcases fold_mem n l (stepB n b x) with h | h
  ·rw [h]
   rcases hs with h2 | h2
   ·exact .inl h2
   ·rw [h2.1]; exact .inr ⟨by simp, h2.2⟩
  ·exact .inr ⟨by simp [h.1], h.2⟩
theorem bestP_cases (l : List (Int × Int)) (n : Int) : bestP l n = (0, 0) ∨ (bestP l n ∈ l ∧ n ≤ (bestP l n).2) := fold_mem n l (0, 0)
theorem best_step (l : List (Int × Int)) (n : Int) {i : Nat} {x : Int × Int} (hx : l[i]? = some x) : (l.take (i + 1)).foldl (stepB n) (0, 0) = stepB n ((l.take i).foldl (stepB n) (0, 0)) x := by
 rw [List.take_add_one, hx]
 simp
theorem best_zero (l : List (Int × Int)) (n : Int) (hl : ∀ r ∈ l, 0 < r.1 ∧ 0 < r.2) (i : Nat) : ((l.take i).foldl (stepB n) (0, 0)).1 = 0 ↔ ((l.take i).foldl (stepB n) (0, 0)).2 = 0 := by
 rcases fold_mem n (l.take i) (0, 0) with h | h
 ·rw [h]
 ·have := hl _ (List.mem_of_mem_take h.1)
  omega
theorem l13Best_out (l : List (Int × Int)) (n : Int) (hlen : l.length ≤ 1000) (hl : ∀ r ∈ l, 0 < r.1 ∧ 0 < r.2) : spec_l13Best l n = some (bestP l n).1 := by
 unfold spec_l13Best spec_l13Best_l1
 rw [loop_some (r := bestP l n) l.length (fun i s => s = ((l.take i).foldl (stepB n) (0, 0), (i : Int))) (fun i s hi hs => by
  subst hs
  simp only [spec_l13Best_l1_b]
  by_cases hlt : i < l.length
  ·obtain ⟨x, hx⟩ := get_at hlt
   refine .inr ⟨hlt, _, ?_, rfl⟩
   rw [best_step l n hx]
   have hz := best_zero l n hl i
   generalize (l.take i).foldl (stepB n) (0, 0) = b at hz
   rw [if_pos (by omega), if_pos (by omega), Int.toNat_natCast, hx, Option.bind_some, wrap_in (by omega) (by omega)]
   unfold stepB
   by_cases h1 : x.2 ≥ n
   ·rw [if_pos h1, if_pos h1]
    by_cases h2 : b.1 = 0
    ·rw [if_pos h2, if_pos (hz.1 h2), if_pos (by omega), Option.bind_some]; rfl
    ·rw [if_neg h2, if_neg (fun h => h2 (hz.2 h)), if_pos (by omega), Option.bind_some]
     by_cases h3 : x.2 < b.2
     ·rw [if_pos h3, if_pos h3, if_pos (by omega), Option.bind_some]; rfl
     ·rw [if_neg h3, if_neg h3]; rfl
   ·rw [if_neg h1, if_neg h1]; rfl
  ·have : i = l.length := by omega
   subst this
   rw [if_neg (by omega), List.take_length]
   exact .inl rfl) l.length 0 _ (by omega) (by simp), Option.bind_some]
abbrev POut2 := DPager × Int × Int
abbrev outPg2 (p : DPager) (a c : Int) : POut2 := (p, a, c)
def allP (p : DPager) (n : Int) : DPager := setP p (areaK p) (markP (areaP p) (bestP (runsP p) n).1 n true)
def AllV (p : DPager) (n : Int) : Prop := SetV p (areaK p) (markP (areaP p) (bestP (runsP p) n).1 n true)
open Classical in
noncomputable def outA (p : DPager) (n : Int) : POut2 := if (bestP (runsP p) n).2 = 0 then outPg2 p 0 5 else if AllV p n then outPg2 (allP p n) (bestP (runsP p) n).1 0 else outPg2 p (bestP (runsP p) n).1 5
theorem best_bd {p : DPager} (hp : PagerV p) {n : Int} (h : (bestP (runsP p) n).2 ≠ 0) : areaK p < (bestP (runsP p) n).1 ∧ (bestP (runsP p) n).1 + n ≤ (p.1.1.length : Int) := by
 rcases bestP_cases (runsP p) n with h1 | ⟨h1, h2⟩
 ·rw [h1] at h; exact absurd rfl h
 ·have := runsP_bd hp _ h1
  omega
theorem l13Allocate_out (p : DPager) (n : Int) (hp : PagerV p) (hin : PagerIn p 1048576) (h1 : 1 ≤ n) (h2 : n ≤ 256) :
  spec_l13Allocate_of2 p n = some (outA p n) := by
 have ha := area_in hp
 have hb := runsP_bd hp
 have hl := runsP_len hp
 unfold spec_l13Allocate_of2 outA
 rw [l13Runs_out p hp hin, Option.bind_some, l13Best_out _ n (by omega) (fun r hr => by have := hb r hr; omega), Option.bind_some]
 by_cases hz : (bestP (runsP p) n).2 = 0
 ·have hz1 : (bestP (runsP p) n).1 = 0 := by
   rcases bestP_cases (runsP p) n with h | ⟨h, _⟩
   ·rw [h]
   ·have := hb _ h; omega
  rw [if_pos hz1, if_pos hz]
 ·have hbd := best_bd hp hz
  rw [if_neg (by omega), if_neg hz, l13Area_out p hp hin, Option.bind_some, l13Mark_out (areaP p) _ n true (areaP_len hp) (by omega) (by omega) (by omega), Option.bind_some, l13Put_out p _ hp hin, Option.bind_some]
  by_cases hs : AllV p n
  ·rw [if_pos hs, if_pos (by unfold AllV at hs; exact hs)]; rfl
  ·rw [if_neg hs, if_neg (by unfold AllV at hs; exact hs)]
theorem allocate_out (p : DPager) (n : Int) (hp : PagerV p) (hin : PagerIn p 1048576) (h1 : 1 ≤ n) (h2 : n ≤ 256) :
  impl_Pager_allocate_of2 p n = some (outA p n) := by
 have ha := area_in hp
 have hb := runsP_bd hp
 have hl := runsP_len hp
 unfold impl_Pager_allocate_of2 outA
 rw [freeRuns_out p hp hin, Option.bind_some]
 unfold impl_Pager_allocate_of2_l1
 rw [loop_some (r := (p, n, bestP (runsP p) n)) (runsP p).length (fun i s => s = (((runsP p).take i).foldl (stepB n) (0, 0), (i : Int))) (fun i s hi hs => by
  subst hs
  simp only [impl_Pager_allocate_of2_l1_b]
  by_cases hlt : i < (runsP p).length
  ·obtain ⟨x, hx⟩ := get_at hlt
   refine .inr ⟨hlt, _, ?_, rfl⟩
   rw [best_step _ n hx]
   generalize ((runsP p).take i).foldl (stepB n) (0, 0) = b
   rw [if_pos (by omega), if_pos (by omega), Int.toNat_natCast, hx, Option.bind_some, wrap_in (by omega) (by omega)]
   unfold stepB
   by_cases h1 : x.2 ≥ n
   ·rw [if_pos h1, if_pos h1]
    by_cases h2 : b.2 = 0
    ·rw [if_pos h2, if_pos h2]; rfl
    ·rw [if_neg h2, if_neg h2]
     by_cases h3 : x.2 < b.2
     ·rw [if_pos h3, if_pos h3]; rfl
     ·rw [if_neg h3, if_neg h3]; rfl
   ·rw [if_neg h1, if_neg h1]; rfl
  ·have : i = (runsP p).length := by omega
   subst this
   rw [if_neg (by omega), List.take_length]
   exact .inl rfl) (runsP p).length 0 _ (by omega) (by simp), Option.bind_some]
 by_cases hz : (bestP (runsP p) n).2 = 0
 ·rw [if_pos hz, if_pos hz]
 ·have hbd := best_bd hp hz
  rw [if_neg hz, if_neg hz, mark_out p (bestP (runsP p) n).1 n true hp hin (by omega) (by omega) (by omega), Option.bind_some]
  by_cases hs : AllV p n
  ·rw [if_pos hs, if_pos (by unfold AllV at hs; exact hs)]; rfl
  ·rw [if_neg hs, if_neg (by unfold AllV at hs; exact hs)]
end Go.Proofs.TM
namespace Go.Proofs.TM
open Go Go.Proofs
set_option linter.unusedVariables false
set_option linter.unusedSimpArgs false
set_option maxHeartbeats 1000000
theorem loop_build {β : Type} (n : Nat) (g : Nat → β) (f : List β × Int → Option ((List β × Int) ⊕ List β))
  (h1 : ∀ i : Nat, i < n → f ((List.range i).map g, (i : Int)) = some (.inl ((List.range (i + 1)).map g, (i : Int) + 1)))
  (h2 : f ((List.range n).map g, (n : Int)) = some (.inr ((List.range n).map g))) : loopO f ([], 0) = some ((List.range n).map g) := by
 refine loop_some n (fun i s => s = ((List.range i).map g, (i : Int))) (fun i s hi hs => ?_) n 0 _ (by omega) rfl
 subst hs
 by_cases hn : i < n
 ·exact .inr ⟨hn, _, h1 i hn, by simp⟩
 ·have : i = n := by omega
  subst this; exact .inl h2
theorem loop_fill {β : Type} (n : Nat) (g : Nat → β) (f : List β × Int → Option ((List β × Int) ⊕ List β)) (m : List β) (hm : m.length = n)
  (h1 : ∀ (m : List β) (i : Nat), i < n → m.length = n → f (m, (i : Int)) = some (.inl (m.set i (g i), (i : Int) + 1)))
  (h2 : ∀ m : List β, m.length = n → f (m, (n : Int)) = some (.inr m)) : loopO f (m, 0) = some ((List.range n).map g) := by
 refine loop_some n (fun i s => s.2 = (i : Int) ∧ s.1.length = n ∧ ∀ j, j < i → s.1[j]? = some (g j)) (fun i s hi hs => ?_) n 0 _ (by omega) ⟨rfl, hm, fun j hj => by omega⟩
 obtain ⟨m, k⟩ := s
 obtain ⟨rfl, hml, hall⟩ := hs
 simp only at hml hall ⊢
 by_cases hn : i < n
 ·refine .inr ⟨hn, _, h1 m i hn hml, by simp, by simp [hml], fun j hj => ?_⟩
  by_cases hji : j = i
  ·subst hji; simp only; rw [List.getElem?_set_self (by omega)]
  ·simp only; rw [List.getElem?_set_ne (by omega)]; exact hall j (by omega)
 ·have : i = n := by omega
  subst this
  refine .inl ?_
  rw [h2 m hml]
  congr 2
  apply List.ext_getElem?
  intro j
  by_cases hj : j < i
  ·rw [hall j hj]; simp [hj]
  ·rw [List.getElem?_eq_none (by omega), List.getElem?_eq_none (by simp; omega)]
theorem u8_wrap_eq (y : Int) : IntKind.u8.wrap y = y % 256 := by simp [IntKind.wrap, IntKind.bits, IntKind.signed]
theorem u64_wrap_in {y : Int} (h : 0 ≤ y) (h' : y < 18446744073709551616) : IntKind.u64.wrap y = y := by simp [IntKind.wrap, IntKind.bits, IntKind.signed]; omega
theorem and255 (y : Int) (h : -9223372036854775808 ≤ y) (h' : y ≤ 9223372036854775807) : bitV .and .i64 y 255 = y % 256 := by
 have e : ((BitVec.ofInt 64 y &&& BitVec.ofInt 64 255).toNat : Int) = y % 256 := by
  rw [BitVec.toNat_and, BitVec.toNat_ofInt, BitVec.toNat_ofInt]
  have : ((255 : Int) % ((2 ^ 64 : Nat) : Int)).toNat = 2 ^ 8 - 1 := by decide
  rw [this, Nat.and_two_pow_sub_one_eq_mod]
  omega
 show (bitsI .and .i64 y 255).getD 0 = _
 show IntKind.i64.wrap ((BitVec.ofInt 64 y &&& BitVec.ofInt 64 255).toNat : Int) = _
 rw [e]
 exact wrap_in (by omega) (by omega)
def byB (n : Int) (j : Nat) : Bt := ⟨UInt8.ofNat ((shrV .i64 n (8 * (j : Int))) % 256).toNat⟩
def leB (n : Int) (k : Nat) : Str := (List.range k).map fun j => (byB n j).v
@[simp] theorem leB_length (n : Int) (k : Nat) : (leB n k).length = k := by simp [leB]
theorem leB_map (n : Int) (k : Nat) : ((List.range k).map (byB n)).map Bt.v = leB n k := by simp [leB, Function.comp_def]
theorem shr_in {n : Int} (c : Int) (h : -9223372036854775808 ≤ n) (h' : n ≤ 9223372036854775807) : -9223372036854775808 ≤ shrV .i64 n c ∧ shrV .i64 n c ≤ 9223372036854775807 := by
 unfold shrV
 rw [Int.fdiv_eq_ediv_of_nonneg _ (by exact Int.pow_nonneg (by omega))]
 have hp : (0 : Int) < 2 ^ (min c.toNat (IntKind.bits .i64)) := Int.pow_pos (by omega)
 generalize (2 : Int) ^ (min c.toNat (IntKind.bits .i64)) = p at hp
 constructor
 ·rcases Int.lt_or_le n 0 with h0 | h0
  ·exact Int.le_ediv_of_mul_le hp (by omega)
  ·exact Int.le_trans (by omega) (Int.ediv_nonneg h0 (by omega))
 ·rcases Int.lt_or_le n 0 with h0 | h0
  ·have := Int.ediv_neg_of_neg_of_pos h0 hp
   omega
  ·exact Int.le_trans (Int.ediv_le_self _ h0) h'
end Go.Proofs.TM
namespace Go.Proofs.TM
open Go Go.Proofs
set_option linter.unusedVariables false
set_option linter.unusedSimpArgs false
set_option maxHeartbeats 1000000
theorem l01Bytes_out (n : Int) (k : Nat) (hk : k ≤ 8) (h : -9223372036854775808 ≤ n) (h' : n ≤ 9223372036854775807) : spec_l01Bytes n k = some (leB n k) := by
 unfold spec_l01Bytes spec_l01Bytes_l1
 rw [loop_build k (byB n) (fun s => spec_l01Bytes_l1_b n k s.1 s.2) (fun i hi => ?_) (by simp [spec_l01Bytes_l1_b])]
 ·rw [Option.bind_some, leB_map]
 ·simp only [spec_l01Bytes_l1_b]
  rw [if_pos (by omega), u64_wrap_in (y := (i : Int)) (by omega) (by omega), u64_wrap_in (by omega) (by omega), if_neg (by omega)]
  have hs := shr_in (8 * (i : Int)) h h'
  rw [and255 _ hs.1 hs.2, u8_wrap_eq, show (shrV .i64 n (8 * (i : Int))) % 256 % 256 = (shrV .i64 n (8 * (i : Int))) % 256 by omega]
  unfold appL
  rw [if_pos (by simp [lit, maxRow]; omega), Option.bind_some, w1 (by omega)]
  simp [List.range_succ, lit, byB]
end Go.Proofs.TM
namespace Go.Proofs.TM
open Go Go.Proofs
set_option linter.unusedVariables false
set_option linter.unusedSimpArgs false
set_option maxHeartbeats 1000000
theorem putBytes_out (n : Int) (k : Nat) (hk : k ≤ 8) : impl_putBytes n k = some (leB n k) := by
 unfold impl_putBytes impl_putBytes_l1
 rw [mkL_ok 1 _ _ (by unfold maxRow; omega) (by unfold maxRow; omega), Option.bind_some]
 rw [loop_fill k (byB n) (fun s => impl_putBytes_l1_b n _ s.1 s.2) _ (by simp) (fun m i hi hm => ?_) (fun m hm => ?_)]
 ·rw [Option.bind_some, leB_map]
 ·simp only [impl_putBytes_l1_b]
  obtain ⟨x, hx⟩ := get_at (l := m) (by omega : i < m.length)
  rw [List.length_replicate, if_pos (by omega), wrap_in (n := 8 * (i : Int)) (by omega) (by omega), if_neg (by omega), if_pos (by omega), Int.toNat_natCast, hx, Option.bind_some, w1 (by omega), u8_wrap_eq]
  rfl
 ·simp only [impl_putBytes_l1_b]
  rw [List.length_replicate, if_neg (by omega)]
end Go.Proofs.TM
namespace Go.Proofs.TM
open Go Go.Proofs
set_option linter.unusedVariables false
set_option linter.unusedSimpArgs false
set_option maxHeartbeats 1000000
theorem loopO_out {σ ρ : Type} {f : σ → Option (σ ⊕ ρ)} {s : σ} {r : ρ} (h : f s = some (.inr r)) : loopO f s = some r := by rw [loopO_unfold, h]; rfl
abbrev DNode := Bool × List (Int × Int × Int × Int) × List Int × List Int
def leaf0 : Str := (leB 1 1 ++ leB 0 1) ++ List.replicate (64 - (leB 1 1 ++ leB 0 1).length) 0
theorem leaf0_len : leaf0.length = 64 := by simp [leaf0]
theorem sLeaf_out : spec_l15Encode (true, [], [], []) = some leaf0 := by
 unfold spec_l15Encode spec_l15Encode_l1
 rw [if_pos rfl, show spec_l01Bytes 1 1 = _ from l01Bytes_out 1 1 (by omega) (by omega) (by omega), Option.bind_some]
 rw [show spec_l01Bytes ((([] : List (Int × Int × Int × Int)).length : Int)) 1 = _ from l01Bytes_out 0 1 (by omega) (by omega) (by omega), Option.bind_some, if_pos (by simp), loopO_out (f := fun s => spec_l15Encode_l1_b (true, [], [], []) s.1 s.2) (r := leB 1 1 ++ leB 0 1) (by simp [spec_l15Encode_l1_b]), Option.bind_some]
 rw [show spec_l01Pad (leB 1 1 ++ leB 0 1) 64 = _ from l01Pad_out _ 64 (by simp) (by omega)]
 rfl
theorem iLeaf_out : impl_Node_encode (true, [], [], []) = some leaf0 := by
 unfold impl_Node_encode impl_Node_encode_l1
 rw [if_neg (by simp), show impl_putBytes 1 1 = _ from putBytes_out 1 1 (by omega), Option.bind_some]
 rw [show impl_putBytes ((([] : List (Int × Int × Int × Int)).length : Int)) 1 = _ from putBytes_out 0 1 (by omega), Option.bind_some, if_pos (by simp), loopO_out (f := fun s => impl_Node_encode_l1_b [] ((([] : List (Int × Int × Int × Int)).length : Int)) s.1 s.2) (r := leB 1 1 ++ leB 0 1) (by simp [impl_Node_encode_l1_b]), Option.bind_some]
 rw [show impl_padded (leB 1 1 ++ leB 0 1) 64 = _ from padded_out _ 64 (by simp) (by omega)]
 rfl
theorem new_two (p : DPager) (hp : PagerV p) (hin : PagerIn p 1048576) : ∃ o o', spec_l15New_o19 p = some o ∧ impl_Pager_newIndex_o19 p = some o' ∧ o.2.2 = o'.2.2 ∧ (o.2.2 = 0 → o = o' ∧ PagerIn o.1 1048576) := by
 unfold spec_l15New_o19 impl_Pager_newIndex_o19
 rw [l13Allocate_out p 1 hp hin (by omega) (by omega), allocate_out p 1 hp hin (by omega) (by omega)]
 simp only [Option.bind_some]
 have ha := area_in hp
 have hv : (outA p 1).2.2 = 0 → PagerV (outA p 1).1 ∧ PagerIn (outA p 1).1 1048576 := fun h => by
  unfold outA at h ⊢
  by_cases hz : (bestP (runsP p) 1).2 = 0
  ·rw [if_pos hz] at h; cases h
  rw [if_neg hz] at h ⊢
  by_cases hs : AllV p 1
  ·rw [if_pos hs] at h ⊢
   have hl : p.2.1.1 = (p.1.1.length : Int) := hp.2.2.2.1
   exact ⟨setP_valid p (areaK p) _ hp (by unfold areaK; omega) (by omega) (by rw [markP_len, areaP_len hp]) hs, setP_in p _ _ hp hin⟩
  ·rw [if_neg hs] at h; cases h
 generalize outA p 1 = a at hv
 by_cases hc : a.2.2 = 0
 ·obtain ⟨hpv, hpi⟩ := hv hc
  rw [if_pos hc, if_neg (fun h => h hc), sLeaf_out, iLeaf_out, Option.bind_some, Option.bind_some, l12Set_out a.1 _ _ hpi, set_out a.1 _ _ hpv hpi]
  by_cases hs : SetV a.1 a.2.1 leaf0
  ·simp only [if_pos hs, Option.bind_some]
   refine ⟨_, _, rfl, rfl, ?_, fun _ => ⟨?_, setP_in a.1 _ _ hpv hpi⟩⟩
   ·simp [spec_l15New_o19_p1, hc]
   ·simp [spec_l15New_o19_p1, hc]
  ·simp only [if_neg hs, Option.bind_some]
   refine ⟨_, _, rfl, rfl, rfl, fun h => (by simp at h)⟩
 ·rw [if_neg hc, if_pos hc]
  refine ⟨_, _, rfl, rfl, ?_, fun h => ?_⟩
  ·simp [spec_l15New_o19_p1]
  ·simp [spec_l15New_o19_p1] at h; exact absurd h hc
open Classical in
theorem NewIndex_two (p : DPager) (hin : PagerIn p 1048576) : ∃ o, spec_NewIndex p = some o ∧ impl_NewIndex p = some o ∧ PagerIn o.1 1048576 := by
 unfold spec_NewIndex impl_NewIndex
 simp only [l12Ok_out p hin, ValidPager_out p hin, Option.bind_some, deq]
 by_cases hp : PagerV p
 case neg => rw [if_pos hp, if_pos hp]; exact ⟨_, rfl, rfl, noPg_in⟩
 rw [if_neg (Classical.not_not.2 hp), if_neg (Classical.not_not.2 hp)]
 unfold impl_Pager_making_Pager_newIndex
 rw [l12Own_out p hin, clone_out p hin, Option.bind_some, Option.bind_some]
 obtain ⟨o, o', h1, h2, h3, h4⟩ := new_two p hp hin
 rw [h1, h2, Option.bind_some, Option.bind_some]
 by_cases hc : o.2.2 = 0
 ·obtain ⟨rfl, h5⟩ := h4 hc
  simp only [hc, not_true_eq_false, if_false, Option.bind_some]
  exact ⟨_, rfl, rfl, h5⟩
 ·rw [if_pos hc]
  rw [h3] at hc
  simp only [hc, not_false_eq_true, if_true, Option.bind_some, h3]
  exact ⟨_, rfl, rfl, noPg_in⟩
theorem FnExactNewIndex_true (p : DPager) (h : Gd.ok p) : laws_FnExactNewIndex p = some true := by
 unfold laws_FnExactNewIndex
 obtain ⟨r, hr, hle, hin⟩ := szPager_le p (pagerOk_of h)
 rw [hr, Option.bind_some]
 by_cases hneg : r < 0
 ·rw [if_pos hneg]
 rw [if_neg hneg]
 have hin := hin (by omega)
 obtain ⟨o, hS, hI, hoin⟩ := NewIndex_two p hin
 obtain ⟨w, hw, w1, w2, w3, w4, w5, w6, wle⟩ := markPager_le p hin
 obtain ⟨u, hu, u1, u2, u3, u4, u5, u6⟩ := markPager_out _ hoin
 simp only [toPager_out p hin, Option.bind_some, hS, hI, eqPager_same _ hoin, eqPager_same p hin, not_true_eq_false, if_false, hw, w1, w2, w3, w4, w5, and_self, if_true, hu, u1, u2, u3, u4, u5, u6]
end Go.Proofs.TM
