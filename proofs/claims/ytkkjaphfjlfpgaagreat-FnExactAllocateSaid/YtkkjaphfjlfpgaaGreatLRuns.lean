/- The free runs of a pager. -/
import Derived.Test.YtkkjaphfjlfpgaaGreatLBits
namespace Go.Proofs.TM
open Go Go.Proofs
set_option linter.unusedVariables false
set_option linter.unusedSimpArgs false
set_option maxHeartbeats 1000000

/-- The runs after so many blocks, and whether the last is open. -/
def runsF (bit : Int → Bool) (k0 : Int) : Nat → List (Int × Int) × Bool
  | 0 => ([], false)
  | i + 1 => if bit (k0 + i) = true then ((runsF bit k0 i).1, false)
    else if (runsF bit k0 i).2 = true then ((runsF bit k0 i).1.set ((runsF bit k0 i).1.length - 1) (((runsF bit k0 i).1.getD ((runsF bit k0 i).1.length - 1) (0, 0)).1, IntKind.i64.wrap (((runsF bit k0 i).1.getD ((runsF bit k0 i).1.length - 1) (0, 0)).2 + 1)), true)
    else ((runsF bit k0 i).1 ++ [(k0 + i, 1)], true)
theorem runsF_ok (bit : Int → Bool) (k0 : Int) : ∀ i, (runsF bit k0 i).1.length ≤ i ∧ ((runsF bit k0 i).2 = true → 0 < (runsF bit k0 i).1.length)
  | 0 => ⟨by simp [runsF], fun h => by simp [runsF] at h⟩
  | i + 1 => by
    obtain ⟨h1, h2⟩ := runsF_ok bit k0 i
    simp only [runsF]
    split
    · exact ⟨by simp only; omega, fun h => by cases h⟩
    · split
      · rename_i hb ho
        exact ⟨by simp only [List.length_set]; omega, fun _ => by simp only [List.length_set]; exact h2 ho⟩
      · exact ⟨by simp only [List.length_append, List.length_singleton]; omega, fun _ => by simp⟩

/-- The free runs. -/
def runsP (p : DPager) : List (Int × Int) := (runsF (bitP (areaP p)) (areaK p + 1) (p.1.1.length - 1 - (areaK p).toNat)).1
theorem runsP_len {p : DPager} (hp : PagerV p) : (runsP p).length ≤ 256 := by
  have := (runsF_ok (bitP (areaP p)) (areaK p + 1) (p.1.1.length - 1 - (areaK p).toNat)).1
  have := area_in hp
  unfold runsP; omega

theorem happ16 (l : List (Int × Int)) (x : Int × Int) (h : l.length ≤ 1000) : appL 16 l (lit [x]) = some (l ++ [x]) := by unfold appL lit; rw [if_pos (by simp [maxRow]; omega)]

theorem l13Runs_out (p : DPager) (hp : PagerV p) (hin : PagerIn p 1048576) : spec_l13Runs p = some (runsP p) := by
  have ha := area_in hp
  have hl := areaP_len hp
  obtain ⟨a, hae⟩ : ∃ a : Nat, areaK p = a := ⟨(areaK p).toNat, by omega⟩
  unfold spec_l13Runs spec_l13First spec_l13Runs_l1
  rw [l13Area_out p hp hin, Option.bind_some, l10Area_out p hp, Option.bind_some, Option.bind_some, wrap_in (by omega) (by omega), bind_some']
  refine loop_some (p.1.1.length - 1 - a) (fun i s => s = (p.1.1, p.1.2.1, p.1.2.2.1, p.1.2.2.2, p.2.1.1, p.2.1.2.1, p.2.1.2.2.1, p.2.1.2.2.2, p.2.2.1, p.2.2.2.1, p.2.2.2.2.1, p.2.2.2.2.2, areaP p, (runsF (bitP (areaP p)) (areaK p + 1) i).1, (runsF (bitP (areaP p)) (areaK p + 1) i).2, areaK p + 1 + i)) (fun i s hi hs => ?_) (p.1.1.length - 1 - a) 0 _ (by omega) (by simp [runsF])
  subst hs
  simp only [spec_l13Runs_l1_b]
  obtain ⟨q1, q2⟩ := runsF_ok (bitP (areaP p)) (areaK p + 1) i
  by_cases hn : i < p.1.1.length - 1 - a
  · rw [if_pos (by omega), l13Bit_out _ _ hl (by omega) (by omega), Option.bind_some]
    refine .inr ⟨hn, _, rfl.trans ?_, rfl⟩
    simp only [runsF]
    generalize runsF (bitP (areaP p)) (areaK p + 1) i = R at *
    by_cases hb : bitP (areaP p) (areaK p + 1 + i) = true
    · simp only [hb, not_true_eq_false, if_false, if_true, spec_l13Runs_p2, Bool.not_true, Bool.false_eq_true, Option.bind_some]
      rw [wrap_in (n := areaK p + 1 + i + 1) (by omega) (by omega)]
      congr 3
      simp only [Int.natCast_add, Int.add_assoc]; rfl
    · have hb' : bitP (areaP p) (areaK p + 1 + i) = false := by simpa using hb
      by_cases ho : R.2 = true
      · have hpos := q2 ho
        obtain ⟨x, hx⟩ := get_at (l := R.1) (i := R.1.length - 1) (by omega)
        simp only [hb', Bool.false_eq_true, not_false_eq_true, if_true, if_false, ho, Bool.not_false]
        rw [wrap_in (n := (R.1.length : Int) - 1) (by omega) (by omega), if_pos (by omega), show ((R.1.length : Int) - 1).toNat = R.1.length - 1 by omega, hx, Option.bind_some, if_pos (by omega), Option.bind_some]
        simp only [spec_l13Runs_p2, not_true_eq_false, if_true, if_false, Option.bind_some, List.getD_eq_getElem?_getD, hx, Option.getD_some]
        rw [wrap_in (n := areaK p + 1 + i + 1) (by omega) (by omega)]
        congr 3
        simp only [Int.natCast_add, Int.add_assoc]; rfl
      · have ho' : R.2 = false := by simpa using ho
        simp only [hb', Bool.false_eq_true, not_false_eq_true, if_true, if_false, ho', Bool.not_false, spec_l13Runs_p2]
        rw [happ16 _ _ (by omega), Option.bind_some, Option.bind_some]
        simp only
        rw [wrap_in (n := areaK p + 1 + i + 1) (by omega) (by omega)]
        congr 3
        simp only [Int.natCast_add, Int.add_assoc]; rfl
  · have : i = p.1.1.length - 1 - a := by omega
    subst this
    rw [if_neg (by omega)]
    left
    unfold runsP
    rw [hae, Int.toNat_natCast]

theorem freeRuns_out (p : DPager) (hp : PagerV p) (hin : PagerIn p 1048576) : impl_Pager_freeRuns p = some (runsP p) := by
  have ha := area_in hp
  have hl := areaP_len hp
  obtain ⟨a, hae⟩ : ∃ a : Nat, areaK p = a := ⟨(areaK p).toNat, by omega⟩
  unfold impl_Pager_freeRuns impl_Pager_freeRuns_l1
  rw [iArea_out p hp, Option.bind_some, wrap_in (by omega) (by omega), bind_some']
  refine loop_some (p.1.1.length - 1 - a) (fun i s => s = (p.1.1, p.1.2.1, p.1.2.2.1, p.1.2.2.2, p.2.1.1, p.2.1.2.1, p.2.1.2.2.1, p.2.1.2.2.2, p.2.2.1, p.2.2.2.1, p.2.2.2.2.1, p.2.2.2.2.2, (runsF (bitP (areaP p)) (areaK p + 1) i).1, (runsF (bitP (areaP p)) (areaK p + 1) i).2, areaK p + 1 + i)) (fun i s hi hs => ?_) (p.1.1.length - 1 - a) 0 _ (by omega) (by simp [runsF])
  subst hs
  simp only [impl_Pager_freeRuns_l1_b]
  obtain ⟨q1, q2⟩ := runsF_ok (bitP (areaP p)) (areaK p + 1) i
  by_cases hn : i < p.1.1.length - 1 - a
  · have hA : ((p.1.1, p.1.2.1, p.1.2.2.1, p.1.2.2.2), (p.2.1.1, p.2.1.2.1, p.2.1.2.2.1, p.2.1.2.2.2), p.2.2.1, p.2.2.2.1, p.2.2.2.2.1, p.2.2.2.2.2) = p := rfl
    rw [if_pos (by omega), hA, allocated_out p hp hin _ (by omega) (by omega), Option.bind_some]
    refine .inr ⟨hn, _, rfl.trans ?_, rfl⟩
    simp only [runsF]
    generalize runsF (bitP (areaP p)) (areaK p + 1) i = R at *
    by_cases hb : bitP (areaP p) (areaK p + 1 + i) = true
    · simp only [hb, not_true_eq_false, if_false, if_true, impl_Pager_freeRuns_p2, Bool.not_true, Bool.false_eq_true, Option.bind_some]
      rw [wrap_in (n := areaK p + 1 + i + 1) (by omega) (by omega)]
      congr 3
      simp only [Int.natCast_add, Int.add_assoc]; rfl
    · have hb' : bitP (areaP p) (areaK p + 1 + i) = false := by simpa using hb
      by_cases ho : R.2 = true
      · have hpos := q2 ho
        obtain ⟨x, hx⟩ := get_at (l := R.1) (i := R.1.length - 1) (by omega)
        simp only [hb', Bool.false_eq_true, not_false_eq_true, if_true, if_false, ho, Bool.not_false]
        rw [wrap_in (n := (R.1.length : Int) - 1) (by omega) (by omega), if_pos (by omega), show ((R.1.length : Int) - 1).toNat = R.1.length - 1 by omega, hx, Option.bind_some, if_pos (by omega), Option.bind_some]
        simp only [List.getD_eq_getElem?_getD, hx, Option.getD_some]
        rw [wrap_in (n := areaK p + 1 + i + 1) (by omega) (by omega)]
        congr 3
        simp only [Int.natCast_add, Int.add_assoc]; rfl
      · have ho' : R.2 = false := by simpa using ho
        simp only [hb', Bool.false_eq_true, not_false_eq_true, if_true, if_false, ho', Bool.not_false, impl_Pager_freeRuns_p2]
        rw [happ16 _ _ (by omega), Option.bind_some, Option.bind_some]
        simp only
        rw [wrap_in (n := areaK p + 1 + i + 1) (by omega) (by omega)]
        congr 3
        simp only [Int.natCast_add, Int.add_assoc]; rfl
  · have : i = p.1.1.length - 1 - a := by omega
    subst this
    rw [if_neg (by omega)]
    left
    unfold runsP
    rw [hae, Int.toNat_natCast]

end Go.Proofs.TM
