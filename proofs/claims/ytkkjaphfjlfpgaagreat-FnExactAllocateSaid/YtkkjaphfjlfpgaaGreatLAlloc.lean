/- The shortest free run; blocks allocated. -/
import Derived.Test.YtkkjaphfjlfpgaaGreatLRuns
import Derived.Test.YtkkjaphfjlfpgaaGreatLPut
import Derived.Test.YtkkjaphfjlfpgaaGreatLMarkB
namespace Go.Proofs.TM
open Go Go.Proofs
set_option linter.unusedVariables false
set_option linter.unusedSimpArgs false
set_option maxHeartbeats 1000000

/-- The runs lie between the first block and the last. -/
theorem runsF_bd (bit : Int → Bool) (k0 : Int) (h0 : 0 ≤ k0) (h1 : k0 ≤ 300) : ∀ i : Nat, i ≤ 300 → ∀ r ∈ (runsF bit k0 i).1, k0 ≤ r.1 ∧ 1 ≤ r.2 ∧ r.1 + r.2 ≤ k0 + i
  | 0, _, r, hr => by simp [runsF] at hr
  | i + 1, hi, r, hr => by
    have ih := runsF_bd bit k0 h0 h1 i (by omega)
    simp only [runsF] at hr
    split at hr
    · have := ih r hr; omega
    · split at hr
      · rename_i hb ho
        rcases List.mem_or_eq_of_mem_set hr with h | h
        · have := ih r h; omega
        · have hpos := (runsF_ok bit k0 i).2 ho
          obtain ⟨x, hx⟩ := get_at (l := (runsF bit k0 i).1) (i := (runsF bit k0 i).1.length - 1) (by omega)
          have hxm := ih x (List.mem_of_getElem? hx)
          rw [List.getD_eq_getElem?_getD, hx, Option.getD_some] at h
          subst h
          simp only
          rw [wrap_in (by omega) (by omega)]
          omega
      · simp only [List.mem_append, List.mem_singleton] at hr
        rcases hr with h | h
        · have := ih r h; omega
        · subst h; simp only; omega
theorem runsP_bd {p : DPager} (hp : PagerV p) : ∀ r ∈ runsP p, areaK p < r.1 ∧ 1 ≤ r.2 ∧ r.1 + r.2 ≤ (p.1.1.length : Int) := fun r hr => by
  have ha := area_in hp
  have := runsF_bd (bitP (areaP p)) (areaK p + 1) (by omega) (by omega) _ (by omega) r hr
  omega

def stepB (n : Int) (b r : Int × Int) : Int × Int := if r.2 ≥ n then (if b.2 = 0 then r else if r.2 < b.2 then r else b) else b
/-- The first of the shortest runs that suffice. -/
def bestP (l : List (Int × Int)) (n : Int) : Int × Int := l.foldl (stepB n) (0, 0)
theorem fold_mem (n : Int) : ∀ (l : List (Int × Int)) (b : Int × Int), l.foldl (stepB n) b = b ∨ (l.foldl (stepB n) b ∈ l ∧ n ≤ (l.foldl (stepB n) b).2)
  | [], b => .inl rfl
  | x :: l, b => by
    simp only [List.foldl_cons]
    have hs : stepB n b x = b ∨ (stepB n b x = x ∧ n ≤ x.2) := by
      unfold stepB
      split
      · split
        · exact .inr ⟨rfl, by omega⟩
        · split
          · exact .inr ⟨rfl, by omega⟩
          · exact .inl rfl
      · exact .inl rfl
    rcases fold_mem n l (stepB n b x) with h | h
    · rw [h]
      rcases hs with h2 | h2
      · exact .inl h2
      · rw [h2.1]; exact .inr ⟨by simp, h2.2⟩
    · exact .inr ⟨by simp [h.1], h.2⟩
theorem bestP_cases (l : List (Int × Int)) (n : Int) : bestP l n = (0, 0) ∨ (bestP l n ∈ l ∧ n ≤ (bestP l n).2) := fold_mem n l (0, 0)

theorem best_step (l : List (Int × Int)) (n : Int) {i : Nat} {x : Int × Int} (hx : l[i]? = some x) : (l.take (i + 1)).foldl (stepB n) (0, 0) = stepB n ((l.take i).foldl (stepB n) (0, 0)) x := by
  rw [List.take_add_one, hx]
  simp
theorem best_zero (l : List (Int × Int)) (n : Int) (hl : ∀ r ∈ l, 0 < r.1 ∧ 0 < r.2) (i : Nat) : ((l.take i).foldl (stepB n) (0, 0)).1 = 0 ↔ ((l.take i).foldl (stepB n) (0, 0)).2 = 0 := by
  rcases fold_mem n (l.take i) (0, 0) with h | h
  · rw [h]
  · have := hl _ (List.mem_of_mem_take h.1)
    omega

theorem l13Best_out (l : List (Int × Int)) (n : Int) (hlen : l.length ≤ 1000) (hl : ∀ r ∈ l, 0 < r.1 ∧ 0 < r.2) : spec_l13Best l n = some (bestP l n).1 := by
  unfold spec_l13Best spec_l13Best_l1
  rw [loop_some (r := bestP l n) l.length (fun i s => s = (((l.take i).foldl (stepB n) (0, 0)).1, ((l.take i).foldl (stepB n) (0, 0)).2, (i : Int))) (fun i s hi hs => by
    subst hs
    simp only [spec_l13Best_l1_b]
    by_cases hlt : i < l.length
    · obtain ⟨x, hx⟩ := get_at hlt
      refine .inr ⟨hlt, _, ?_, rfl⟩
      rw [best_step l n hx]
      have hz := best_zero l n hl i
      generalize (l.take i).foldl (stepB n) (0, 0) = b at hz
      rw [if_pos (by omega), if_pos (by omega), Int.toNat_natCast, hx, Option.bind_some, wrap_in (by omega) (by omega)]
      unfold stepB
      by_cases h1 : x.2 ≥ n
      · rw [if_pos h1, if_pos h1]
        by_cases h2 : b.1 = 0
        · rw [if_pos h2, if_pos (hz.1 h2), if_pos (by omega), Option.bind_some]; rfl
        · rw [if_neg h2, if_neg (fun h => h2 (hz.2 h)), if_pos (by omega), Option.bind_some]
          by_cases h3 : x.2 < b.2
          · rw [if_pos h3, if_pos h3, if_pos (by omega), Option.bind_some]; rfl
          · rw [if_neg h3, if_neg h3]; rfl
      · rw [if_neg h1, if_neg h1]; rfl
    · have : i = l.length := by omega
      subst this
      rw [if_neg (by omega), List.take_length]
      exact .inl rfl) l.length 0 _ (by omega) (by simp), Option.bind_some]

abbrev POut2 := List Str × (List (Int × Str)) × Int × Bool × Int × Int × Int × Int × Int × Int × (List (Int × Str)) × (List (Int × Str)) × Int × Int
def outPg2 (p : DPager) (a c : Int) : POut2 := (p.1.1, p.1.2.1, p.1.2.2.1, p.1.2.2.2, p.2.1.1, p.2.1.2.1, p.2.1.2.2.1, p.2.1.2.2.2, p.2.2.1, p.2.2.2.1, p.2.2.2.2.1, p.2.2.2.2.2, a, c)
def POut2.pg (o : POut2) : DPager := ((o.1, o.2.1, o.2.2.1, o.2.2.2.1), (o.2.2.2.2.1, o.2.2.2.2.2.1, o.2.2.2.2.2.2.1, o.2.2.2.2.2.2.2.1), o.2.2.2.2.2.2.2.2.1, o.2.2.2.2.2.2.2.2.2.1, o.2.2.2.2.2.2.2.2.2.2.1, o.2.2.2.2.2.2.2.2.2.2.2.1)

/-- What the allocation of blocks comes to: the pager, the first block, a code. -/
def allP (p : DPager) (n : Int) : DPager := setP p (areaK p) (markP (areaP p) (bestP (runsP p) n).1 n true)
def AllV (p : DPager) (n : Int) : Prop := SetV p (areaK p) (markP (areaP p) (bestP (runsP p) n).1 n true)
open Classical in
noncomputable def outA (p : DPager) (n : Int) : POut2 := if (bestP (runsP p) n).2 = 0 then outPg2 p 0 5 else if AllV p n then outPg2 (allP p n) (bestP (runsP p) n).1 0 else outPg2 p (bestP (runsP p) n).1 5

theorem best_bd {p : DPager} (hp : PagerV p) {n : Int} (h : (bestP (runsP p) n).2 ≠ 0) : areaK p < (bestP (runsP p) n).1 ∧ (bestP (runsP p) n).1 + n ≤ (p.1.1.length : Int) := by
  rcases bestP_cases (runsP p) n with h1 | ⟨h1, h2⟩
  · rw [h1] at h; exact absurd rfl h
  · have := runsP_bd hp _ h1
    omega

theorem l13Allocate_out (p : DPager) (n : Int) (hp : PagerV p) (hin : PagerIn p 1048576) (h1 : 1 ≤ n) (h2 : n ≤ 256) :
    spec_l13Allocate_of2 p.1.1 p.1.2.1 p.1.2.2.1 p.1.2.2.2 p.2.1.1 p.2.1.2.1 p.2.1.2.2.1 p.2.1.2.2.2 p.2.2.1 p.2.2.2.1 p.2.2.2.2.1 p.2.2.2.2.2 n = some (outA p n) := by
  have ha := area_in hp
  have hb := runsP_bd hp
  have hl := runsP_len hp
  unfold spec_l13Allocate_of2 outA
  simp only [pg_eta]
  rw [l13Runs_out p hp hin, Option.bind_some, l13Best_out _ n (by omega) (fun r hr => by have := hb r hr; omega), Option.bind_some]
  by_cases hz : (bestP (runsP p) n).2 = 0
  · have hz1 : (bestP (runsP p) n).1 = 0 := by
      rcases bestP_cases (runsP p) n with h | ⟨h, _⟩
      · rw [h]
      · have := hb _ h; omega
    rw [if_pos hz1, if_pos hz]; rfl
  · have hbd := best_bd hp hz
    rw [if_neg (by omega), if_neg hz, l13Area_out p hp hin, Option.bind_some, l13Mark_out (areaP p) _ n true (areaP_len hp) (by omega) (by omega) (by omega), Option.bind_some, l13Put_out p _ hp hin, Option.bind_some]
    by_cases hs : AllV p n
    · rw [if_pos hs, if_pos (by unfold AllV at hs; exact hs)]; rfl
    · rw [if_neg hs, if_neg (by unfold AllV at hs; exact hs)]; rfl

theorem allocate_out (p : DPager) (n : Int) (hp : PagerV p) (hin : PagerIn p 1048576) (h1 : 1 ≤ n) (h2 : n ≤ 256) :
    impl_Pager_allocate_of2 p.1.1 p.1.2.1 p.1.2.2.1 p.1.2.2.2 p.2.1.1 p.2.1.2.1 p.2.1.2.2.1 p.2.1.2.2.2 p.2.2.1 p.2.2.2.1 p.2.2.2.2.1 p.2.2.2.2.2 n = some (outA p n) := by
  have ha := area_in hp
  have hb := runsP_bd hp
  have hl := runsP_len hp
  unfold impl_Pager_allocate_of2 outA
  simp only [pg_eta]
  rw [freeRuns_out p hp hin, Option.bind_some]
  unfold impl_Pager_allocate_of2_l1
  rw [loop_some (r := (p.1.1, p.1.2.1, p.1.2.2.1, p.1.2.2.2, p.2.1.1, p.2.1.2.1, p.2.1.2.2.1, p.2.1.2.2.2, p.2.2.1, p.2.2.2.1, p.2.2.2.2.1, p.2.2.2.2.2, n, (bestP (runsP p) n).1, (bestP (runsP p) n).2)) (runsP p).length (fun i s => s = ((((runsP p).take i).foldl (stepB n) (0, 0)).1, (((runsP p).take i).foldl (stepB n) (0, 0)).2, (i : Int))) (fun i s hi hs => by
    subst hs
    simp only [impl_Pager_allocate_of2_l1_b]
    by_cases hlt : i < (runsP p).length
    · obtain ⟨x, hx⟩ := get_at hlt
      refine .inr ⟨hlt, _, ?_, rfl⟩
      rw [best_step _ n hx]
      generalize ((runsP p).take i).foldl (stepB n) (0, 0) = b
      rw [if_pos (by omega), if_pos (by omega), Int.toNat_natCast, hx, Option.bind_some, wrap_in (by omega) (by omega)]
      unfold stepB
      by_cases h1 : x.2 ≥ n
      · rw [if_pos h1, if_pos h1]
        by_cases h2 : b.2 = 0
        · rw [if_pos h2, if_pos h2]; rfl
        · rw [if_neg h2, if_neg h2]
          by_cases h3 : x.2 < b.2
          · rw [if_pos h3, if_pos h3]; rfl
          · rw [if_neg h3, if_neg h3]; rfl
      · rw [if_neg h1, if_neg h1]; rfl
    · have : i = (runsP p).length := by omega
      subst this
      rw [if_neg (by omega), List.take_length]
      exact .inl rfl) (runsP p).length 0 _ (by omega) (by simp), Option.bind_some]
  by_cases hz : (bestP (runsP p) n).2 = 0
  · rw [if_pos hz, if_pos hz]; rfl
  · have hbd := best_bd hp hz
    rw [if_neg hz, if_neg hz, mark_out p (bestP (runsP p) n).1 n true hp hin (by omega) (by omega) (by omega), Option.bind_some]
    by_cases hs : AllV p n
    · rw [if_pos hs, if_pos (by unfold AllV at hs; exact hs)]; rfl
    · rw [if_neg hs, if_neg (by unfold AllV at hs; exact hs)]; rfl
end Go.Proofs.TM
