import Derived.Test.YtbhfiopdgapepaaGreatMB
/- The bits of an allocation page. -/
namespace Go.Proofs.TM
open Go Go.Proofs
set_option linter.unusedVariables false
set_option linter.unusedSimpArgs false
set_option maxHeartbeats 1000000

/-- A bit of an allocation page. -/
def bitP (area : Str) (k : Int) : Bool := decide (bitV .and .u8 (shrV .u8 (((area.getD (4 + Int.tdiv k 8).toNat 0).toNat : Nat) : Int) (Int.tmod k 8)) 1 = 1)
theorem tdm {k : Int} (h0 : 0 ≤ k) (h1 : k ≤ 300) : 0 ≤ Int.tdiv k 8 ∧ Int.tdiv k 8 = k / 8 ∧ 0 ≤ Int.tmod k 8 ∧ Int.tmod k 8 < 8 := by
  rw [Int.tdiv_eq_ediv_of_nonneg h0, Int.tmod_eq_emod_of_nonneg h0]; omega
theorem l13Bit_out (area : Str) (k : Int) (ha : area.length = 64) (h0 : 0 ≤ k) (h1 : k ≤ 300) : spec_l13Bit area k = some (bitP area k) := by
  obtain ⟨a, b, c, d⟩ := tdm h0 h1
  unfold spec_l13Bit bitP
  rw [wrap_in (n := Int.tdiv k 8) (by omega) (by omega), wrap_in (n := 4 + Int.tdiv k 8) (by omega) (by omega), if_pos (by omega)]
  obtain ⟨x, hx⟩ := get_at (l := area) (i := (4 + Int.tdiv k 8).toNat) (by omega)
  have hu : IntKind.u64.wrap (Int.tmod k 8) = Int.tmod k 8 := by simp [IntKind.wrap, IntKind.bits, IntKind.signed]; omega
  rw [hx, Option.bind_some, hu, if_neg (by omega), List.getD_eq_getElem?_getD, hx]
  rfl

theorem allocated_out (p : DPager) (hp : PagerV p) (hin : PagerIn p 1048576) (k : Int) (h0 : areaK p < k) (h1 : k < (p.1.1.length : Int)) : impl_Pager_allocated p k = some (bitP (areaP p) k) := by
  have ha := area_in hp
  have hl := areaP_len hp
  unfold impl_Pager_allocated bitP
  rw [isData_out p hp k 1 (by omega) (by omega), Option.bind_some, if_pos (by simp; omega), iArea_out p hp, Option.bind_some, get_out p _ hp hin (by omega) (by omega), Option.bind_some]
  obtain ⟨a, b, c, d⟩ := tdm (k := k) (by omega) (by omega)
  rw [wrap_in (n := Int.tdiv k 8) (by omega) (by omega), wrap_in (n := 4 + Int.tdiv k 8) (by omega) (by omega), if_pos (by omega)]
  obtain ⟨x, hx⟩ := get_at (l := areaP p) (i := (4 + Int.tdiv k 8).toNat) (by omega)
  rw [show getP p (areaK p) = areaP p from rfl, hx, Option.bind_some, if_neg (by omega), List.getD_eq_getElem?_getD, hx]
  rfl

end Go.Proofs.TM
/- Bits of the allocation page marked. -/
namespace Go.Proofs.TM
open Go Go.Proofs
set_option linter.unusedVariables false
set_option linter.unusedSimpArgs false
set_option maxHeartbeats 1000000

/-- One bit marked, or not. -/
def mkStep (set : Bool) (l : List Bt) (k : Int) : List Bt :=
  l.set (4 + Int.tdiv k 8).toNat ⟨UInt8.ofNat ((if set = true then bitV .or .u8 (((l.getD (4 + Int.tdiv k 8).toNat ⟨0⟩).v.toNat : Nat) : Int) (shlV .u8 1 (Int.tmod k 8)) else bitV .andNot .u8 (((l.getD (4 + Int.tdiv k 8).toNat ⟨0⟩).v.toNat : Nat) : Int) (shlV .u8 1 (Int.tmod k 8)))).toNat⟩
def markL (s : Str) (k : Int) (set : Bool) : Nat → List Bt
  | 0 => s.map Bt.mk
  | i + 1 => mkStep set (markL s k set i) (k + i)
theorem markL_len (s : Str) (k : Int) (set : Bool) : ∀ i, (markL s k set i).length = s.length
  | 0 => by simp [markL]
  | i + 1 => by simp [markL, mkStep, markL_len s k set i]
def markP (s : Str) (k n : Int) (set : Bool) : Str := (markL s k set n.toNat).map Bt.v
theorem markP_len (s : Str) (k n : Int) (set : Bool) : (markP s k n set).length = s.length := by simp [markP, markL_len]

theorem mark_loop {ρ : Type} (s : Str) (k n : Int) (set : Bool) (h0 : 0 ≤ k) (hn : 0 ≤ n) (h : k + n ≤ 256) (R : List Bt → ρ) (f : List Bt × Int → Option ((List Bt × Int) ⊕ ρ))
    (h1 : ∀ (m : List Bt) (i : Nat), m.length = s.length → (i : Int) < n → f (m, k + i) = some (.inl (mkStep set m (k + i), k + i + 1))) (h2 : ∀ m, f (m, k + n) = some (.inr (R m))) :
    loopO f (s.map Bt.mk, k) = some (R (markL s k set n.toNat)) := by
  refine loop_some n.toNat (fun i st => st = (markL s k set i, k + i) ∧ (i : Int) ≤ n) (fun i st hi hs => ?_) n.toNat 0 _ (by omega) ⟨by simp [markL], by omega⟩
  obtain ⟨rfl, hin⟩ := hs
  by_cases hlt : (i : Int) < n
  · refine .inr ⟨by omega, _, h1 _ i (markL_len s k set i) hlt, ?_, by omega⟩
    simp [markL]; omega
  · have he : (i : Int) = n := by omega
    have : i = n.toNat := by omega
    subst this
    rw [he]
    exact .inl (h2 _)

theorem l13Mark_out (s : Str) (k n : Int) (set : Bool) (hs : s.length = 64) (h0 : 0 ≤ k) (hn : 0 ≤ n) (h : k + n ≤ 256) : spec_l13Mark s k n set = some (markP s k n set) := by
  unfold spec_l13Mark bytL spec_l13Mark_l1
  rw [if_pos (by rw [hs]; unfold maxRow; omega), Option.bind_some]
  have hw : IntKind.i64.wrap (k + n) = k + n := wrap_in (by omega) (by omega)
  rw [mark_loop s k n set h0 hn h (fun m => m) _ (fun m i hm hi => ?_) (fun m => ?_)]
  · rfl
  · simp only [spec_l13Mark_l1_b]
    obtain ⟨a, b, c, d⟩ := tdm (k := k + i) (by omega) (by omega)
    have hu : IntKind.u64.wrap (Int.tmod (k + i) 8) = Int.tmod (k + i) 8 := by simp [IntKind.wrap, IntKind.bits, IntKind.signed]; omega
    rw [hw, if_pos (by omega), hu, if_neg (by omega), wrap_in (n := Int.tdiv (k + i) 8) (by omega) (by omega), wrap_in (n := 4 + Int.tdiv (k + i) 8) (by omega) (by omega), wrap_in (n := k + i + 1) (by omega) (by omega)]
    obtain ⟨x, hx⟩ := get_at (l := m) (i := (4 + Int.tdiv (k + i) 8).toNat) (by omega)
    have hd : m.getD (4 + Int.tdiv (k + i) 8).toNat ⟨0⟩ = x := by rw [List.getD_eq_getElem?_getD, hx]; rfl
    unfold mkStep
    rw [hd]
    cases set
    · rw [if_neg (by simp), if_pos (by omega), hx, Option.bind_some, if_pos (by omega), Option.bind_some, if_neg (by simp)]
    · rw [if_pos rfl, if_pos (by omega), hx, Option.bind_some, if_pos (by omega), Option.bind_some, if_pos rfl]
  · simp only [spec_l13Mark_l1_b]
    rw [hw, if_neg (by omega)]

open Classical in
theorem mark_out (p : DPager) (k n : Int) (set : Bool) (hp : PagerV p) (hin : PagerIn p 1048576) (h0 : 0 ≤ k) (hn : 0 ≤ n) (h : k + n ≤ 256) :
    impl_Pager_mark_o8d p k n set =
      some (if SetV p (areaK p) (markP (areaP p) k n set) then outPg (setP p (areaK p) (markP (areaP p) k n set)) 0 else outPg p 5) := by
  have ha := area_in hp
  have hs := areaP_len hp
  unfold impl_Pager_mark_o8d
  rw [iArea_out p hp, Option.bind_some, get_out p _ hp hin (by omega) (by omega), Option.bind_some, show getP p (areaK p) = areaP p from rfl]
  unfold bytL impl_Pager_mark_o8d_l1
  rw [if_pos (by rw [hs]; unfold maxRow; omega), Option.bind_some]
  have hw : IntKind.i64.wrap (k + n) = k + n := wrap_in (by omega) (by omega)
  rw [mark_loop (areaP p) k n set h0 hn h (fun m => (p, m)) _ (fun m i hm hi => ?_) (fun m => ?_)]
  · simp only [Option.bind_some]
    rw [iArea_out p hp, Option.bind_some, show (markL (areaP p) k set n.toNat).map Bt.v = markP (areaP p) k n set from rfl, set_out p _ _ hp hin, Option.bind_some]
  · simp only [impl_Pager_mark_o8d_l1_b]
    obtain ⟨a, b, c, d⟩ := tdm (k := k + i) (by omega) (by omega)
    rw [hw, if_pos (by omega), if_neg (by omega), wrap_in (n := Int.tdiv (k + i) 8) (by omega) (by omega), wrap_in (n := 4 + Int.tdiv (k + i) 8) (by omega) (by omega), wrap_in (n := k + i + 1) (by omega) (by omega)]
    obtain ⟨x, hx⟩ := get_at (l := m) (i := (4 + Int.tdiv (k + i) 8).toNat) (by omega)
    have hd : m.getD (4 + Int.tdiv (k + i) 8).toNat ⟨0⟩ = x := by rw [List.getD_eq_getElem?_getD, hx]; rfl
    unfold mkStep
    rw [hd]
    cases set
    · rw [if_neg (by simp), if_pos (by omega), hx, Option.bind_some, if_pos (by omega), Option.bind_some, if_neg (by simp)]
    · rw [if_pos rfl, if_pos (by omega), hx, Option.bind_some, if_pos (by omega), Option.bind_some, if_pos rfl]
  · simp only [impl_Pager_mark_o8d_l1_b]
    rw [hw, if_neg (by omega)]
end Go.Proofs.TM
/- The free runs of a pager. -/
namespace Go.Proofs.TM
open Go Go.Proofs
set_option linter.unusedVariables false
set_option linter.unusedSimpArgs false
set_option maxHeartbeats 1000000

/-- The runs after so many blocks, and whether the last is open. -/
def runsF (bit : Int → Bool) (k0 : Int) : Nat → List (Int × Int) × Bool
  | 0 => ([], false)
  | i + 1 => if bit (k0 + i) = true then ((runsF bit k0 i).1, false)
    else if (runsF bit k0 i).2 = true then ((runsF bit k0 i).1.set ((runsF bit k0 i).1.length - 1) (((runsF bit k0 i).1.getD ((runsF bit k0 i).1.length - 1) (0, 0)).1, IntKind.i64.wrap (((runsF bit k0 i).1.getD ((runsF bit k0 i).1.length - 1) (0, 0)).2 + 1)), true)
    else ((runsF bit k0 i).1 ++ [(k0 + i, 1)], true)
theorem runsF_ok (bit : Int → Bool) (k0 : Int) : ∀ i, (runsF bit k0 i).1.length ≤ i ∧ ((runsF bit k0 i).2 = true → 0 < (runsF bit k0 i).1.length)
  | 0 => ⟨by simp [runsF], fun h => by simp [runsF] at h⟩
  | i + 1 => by
    obtain ⟨h1, h2⟩ := runsF_ok bit k0 i
    simp only [runsF]
    split
    · exact ⟨by simp only; omega, fun h => by cases h⟩
    · split
      · rename_i hb ho
        exact ⟨by simp only [List.length_set]; omega, fun _ => by simp only [List.length_set]; exact h2 ho⟩
      · exact ⟨by simp only [List.length_append, List.length_singleton]; omega, fun _ => by simp⟩

/-- The free runs. -/
def runsP (p : DPager) : List (Int × Int) := (runsF (bitP (areaP p)) (areaK p + 1) (p.1.1.length - 1 - (areaK p).toNat)).1
theorem runsP_len {p : DPager} (hp : PagerV p) : (runsP p).length ≤ 256 := by
  have := (runsF_ok (bitP (areaP p)) (areaK p + 1) (p.1.1.length - 1 - (areaK p).toNat)).1
  have := area_in hp
  unfold runsP; omega

theorem happ16 (l : List (Int × Int)) (x : Int × Int) (h : l.length ≤ 1000) : appL 16 l (lit [x]) = some (l ++ [x]) := by unfold appL lit; rw [if_pos (by simp [maxRow]; omega)]

theorem l13Runs_out (p : DPager) (hp : PagerV p) (hin : PagerIn p 1048576) : spec_l13Runs p = some (runsP p) := by
  have ha := area_in hp
  have hl := areaP_len hp
  obtain ⟨a, hae⟩ : ∃ a : Nat, areaK p = a := ⟨(areaK p).toNat, by omega⟩
  unfold spec_l13Runs spec_l13First spec_l13Runs_l1
  rw [l13Area_out p hp hin, Option.bind_some, l10Area_out p hp, Option.bind_some, Option.bind_some, wrap_in (by omega) (by omega), bind_some']
  refine loop_some (p.1.1.length - 1 - a) (fun i s => s = (p.1.1, p.1.2.1, p.1.2.2.1, p.1.2.2.2, p.2.1.1, p.2.1.2.1, p.2.1.2.2.1, p.2.1.2.2.2, p.2.2.1, p.2.2.2.1, p.2.2.2.2.1, p.2.2.2.2.2, areaP p, (runsF (bitP (areaP p)) (areaK p + 1) i).1, (runsF (bitP (areaP p)) (areaK p + 1) i).2, areaK p + 1 + i)) (fun i s hi hs => ?_) (p.1.1.length - 1 - a) 0 _ (by omega) (by simp [runsF])
  subst hs
  simp only [spec_l13Runs_l1_b]
  obtain ⟨q1, q2⟩ := runsF_ok (bitP (areaP p)) (areaK p + 1) i
  by_cases hn : i < p.1.1.length - 1 - a
  · rw [if_pos (by omega), l13Bit_out _ _ hl (by omega) (by omega), Option.bind_some]
    refine .inr ⟨hn, _, rfl.trans ?_, rfl⟩
    simp only [runsF]
    generalize runsF (bitP (areaP p)) (areaK p + 1) i = R at *
    by_cases hb : bitP (areaP p) (areaK p + 1 + i) = true
    · simp only [hb, not_true_eq_false, if_false, if_true, spec_l13Runs_p2, Bool.not_true, Bool.false_eq_true, Option.bind_some]
      rw [wrap_in (n := areaK p + 1 + i + 1) (by omega) (by omega)]
      congr 3
      simp only [Int.natCast_add, Int.add_assoc]; rfl
    · have hb' : bitP (areaP p) (areaK p + 1 + i) = false := by simpa using hb
      by_cases ho : R.2 = true
      · have hpos := q2 ho
        obtain ⟨x, hx⟩ := get_at (l := R.1) (i := R.1.length - 1) (by omega)
        simp only [hb', Bool.false_eq_true, not_false_eq_true, if_true, if_false, ho, Bool.not_false]
        rw [wrap_in (n := (R.1.length : Int) - 1) (by omega) (by omega), if_pos (by omega), show ((R.1.length : Int) - 1).toNat = R.1.length - 1 by omega, hx, Option.bind_some, if_pos (by omega), Option.bind_some]
        simp only [spec_l13Runs_p2, not_true_eq_false, if_true, if_false, Option.bind_some, List.getD_eq_getElem?_getD, hx, Option.getD_some]
        rw [wrap_in (n := areaK p + 1 + i + 1) (by omega) (by omega)]
        congr 3
        simp only [Int.natCast_add, Int.add_assoc]; rfl
      · have ho' : R.2 = false := by simpa using ho
        simp only [hb', Bool.false_eq_true, not_false_eq_true, if_true, if_false, ho', Bool.not_false, spec_l13Runs_p2]
        rw [happ16 _ _ (by omega), Option.bind_some, Option.bind_some]
        simp only
        rw [wrap_in (n := areaK p + 1 + i + 1) (by omega) (by omega)]
        congr 3
        simp only [Int.natCast_add, Int.add_assoc]; rfl
  · have : i = p.1.1.length - 1 - a := by omega
    subst this
    rw [if_neg (by omega)]
    left
    unfold runsP
    rw [hae, Int.toNat_natCast]

theorem freeRuns_out (p : DPager) (hp : PagerV p) (hin : PagerIn p 1048576) : impl_Pager_freeRuns p = some (runsP p) := by
  have ha := area_in hp
  have hl := areaP_len hp
  obtain ⟨a, hae⟩ : ∃ a : Nat, areaK p = a := ⟨(areaK p).toNat, by omega⟩
  unfold impl_Pager_freeRuns impl_Pager_freeRuns_l1
  rw [iArea_out p hp, Option.bind_some, wrap_in (by omega) (by omega), bind_some']
  refine loop_some (p.1.1.length - 1 - a) (fun i s => s = (p.1.1, p.1.2.1, p.1.2.2.1, p.1.2.2.2, p.2.1.1, p.2.1.2.1, p.2.1.2.2.1, p.2.1.2.2.2, p.2.2.1, p.2.2.2.1, p.2.2.2.2.1, p.2.2.2.2.2, (runsF (bitP (areaP p)) (areaK p + 1) i).1, (runsF (bitP (areaP p)) (areaK p + 1) i).2, areaK p + 1 + i)) (fun i s hi hs => ?_) (p.1.1.length - 1 - a) 0 _ (by omega) (by simp [runsF])
  subst hs
  simp only [impl_Pager_freeRuns_l1_b]
  obtain ⟨q1, q2⟩ := runsF_ok (bitP (areaP p)) (areaK p + 1) i
  by_cases hn : i < p.1.1.length - 1 - a
  · have hA : ((p.1.1, p.1.2.1, p.1.2.2.1, p.1.2.2.2), (p.2.1.1, p.2.1.2.1, p.2.1.2.2.1, p.2.1.2.2.2), p.2.2.1, p.2.2.2.1, p.2.2.2.2.1, p.2.2.2.2.2) = p := rfl
    rw [if_pos (by omega), hA, allocated_out p hp hin _ (by omega) (by omega), Option.bind_some]
    refine .inr ⟨hn, _, rfl.trans ?_, rfl⟩
    simp only [runsF]
    generalize runsF (bitP (areaP p)) (areaK p + 1) i = R at *
    by_cases hb : bitP (areaP p) (areaK p + 1 + i) = true
    · simp only [hb, not_true_eq_false, if_false, if_true, impl_Pager_freeRuns_p2, Bool.not_true, Bool.false_eq_true, Option.bind_some]
      rw [wrap_in (n := areaK p + 1 + i + 1) (by omega) (by omega)]
      congr 3
      simp only [Int.natCast_add, Int.add_assoc]; rfl
    · have hb' : bitP (areaP p) (areaK p + 1 + i) = false := by simpa using hb
      by_cases ho : R.2 = true
      · have hpos := q2 ho
        obtain ⟨x, hx⟩ := get_at (l := R.1) (i := R.1.length - 1) (by omega)
        simp only [hb', Bool.false_eq_true, not_false_eq_true, if_true, if_false, ho, Bool.not_false]
        rw [wrap_in (n := (R.1.length : Int) - 1) (by omega) (by omega), if_pos (by omega), show ((R.1.length : Int) - 1).toNat = R.1.length - 1 by omega, hx, Option.bind_some, if_pos (by omega), Option.bind_some]
        simp only [List.getD_eq_getElem?_getD, hx, Option.getD_some]
        rw [wrap_in (n := areaK p + 1 + i + 1) (by omega) (by omega)]
        congr 3
        simp only [Int.natCast_add, Int.add_assoc]; rfl
      · have ho' : R.2 = false := by simpa using ho
        simp only [hb', Bool.false_eq_true, not_false_eq_true, if_true, if_false, ho', Bool.not_false, impl_Pager_freeRuns_p2]
        rw [happ16 _ _ (by omega), Option.bind_some, Option.bind_some]
        simp only
        rw [wrap_in (n := areaK p + 1 + i + 1) (by omega) (by omega)]
        congr 3
        simp only [Int.natCast_add, Int.add_assoc]; rfl
  · have : i = p.1.1.length - 1 - a := by omega
    subst this
    rw [if_neg (by omega)]
    left
    unfold runsP
    rw [hae, Int.toNat_natCast]

end Go.Proofs.TM
/- The shortest free run; blocks allocated. -/
namespace Go.Proofs.TM
open Go Go.Proofs
set_option linter.unusedVariables false
set_option linter.unusedSimpArgs false
set_option maxHeartbeats 1000000

/-- The runs lie between the first block and the last. -/
theorem runsF_bd (bit : Int → Bool) (k0 : Int) (h0 : 0 ≤ k0) (h1 : k0 ≤ 300) : ∀ i : Nat, i ≤ 300 → ∀ r ∈ (runsF bit k0 i).1, k0 ≤ r.1 ∧ 1 ≤ r.2 ∧ r.1 + r.2 ≤ k0 + i
  | 0, _, r, hr => by simp [runsF] at hr
  | i + 1, hi, r, hr => by
    have ih := runsF_bd bit k0 h0 h1 i (by omega)
    simp only [runsF] at hr
    split at hr
    · have := ih r hr; omega
    · split at hr
      · rename_i hb ho
        rcases List.mem_or_eq_of_mem_set hr with h | h
        · have := ih r h; omega
        · have hpos := (runsF_ok bit k0 i).2 ho
          obtain ⟨x, hx⟩ := get_at (l := (runsF bit k0 i).1) (i := (runsF bit k0 i).1.length - 1) (by omega)
          have hxm := ih x (List.mem_of_getElem? hx)
          rw [List.getD_eq_getElem?_getD, hx, Option.getD_some] at h
          subst h
          simp only
          rw [wrap_in (by omega) (by omega)]
          omega
      · simp only [List.mem_append, List.mem_singleton] at hr
        rcases hr with h | h
        · have := ih r h; omega
        · subst h; simp only; omega
theorem runsP_bd {p : DPager} (hp : PagerV p) : ∀ r ∈ runsP p, areaK p < r.1 ∧ 1 ≤ r.2 ∧ r.1 + r.2 ≤ (p.1.1.length : Int) := fun r hr => by
  have ha := area_in hp
  have := runsF_bd (bitP (areaP p)) (areaK p + 1) (by omega) (by omega) _ (by omega) r hr
  omega

def stepB (n : Int) (b r : Int × Int) : Int × Int := if r.2 ≥ n then (if b.2 = 0 then r else if r.2 < b.2 then r else b) else b
/-- The first of the shortest runs that suffice. -/
def bestP (l : List (Int × Int)) (n : Int) : Int × Int := l.foldl (stepB n) (0, 0)
theorem fold_mem (n : Int) : ∀ (l : List (Int × Int)) (b : Int × Int), l.foldl (stepB n) b = b ∨ (l.foldl (stepB n) b ∈ l ∧ n ≤ (l.foldl (stepB n) b).2)
  | [], b => .inl rfl
  | x :: l, b => by
    simp only [List.foldl_cons]
    have hs : stepB n b x = b ∨ (stepB n b x = x ∧ n ≤ x.2) := by
      unfold stepB
      split
      · split
        · exact .inr ⟨rfl, by omega⟩
        · split
          · exact .inr ⟨rfl, by omega⟩
          · exact .inl rfl
      · exact .inl rfl
    rcases fold_mem n l (stepB n b x) with h | h
    · rw [h]
      rcases hs with h2 | h2
      · exact .inl h2
      · rw [h2.1]; exact .inr ⟨by simp, h2.2⟩
    · exact .inr ⟨by simp [h.1], h.2⟩
theorem bestP_cases (l : List (Int × Int)) (n : Int) : bestP l n = (0, 0) ∨ (bestP l n ∈ l ∧ n ≤ (bestP l n).2) := fold_mem n l (0, 0)

theorem best_step (l : List (Int × Int)) (n : Int) {i : Nat} {x : Int × Int} (hx : l[i]? = some x) : (l.take (i + 1)).foldl (stepB n) (0, 0) = stepB n ((l.take i).foldl (stepB n) (0, 0)) x := by
  rw [List.take_add_one, hx]
  simp
theorem best_zero (l : List (Int × Int)) (n : Int) (hl : ∀ r ∈ l, 0 < r.1 ∧ 0 < r.2) (i : Nat) : ((l.take i).foldl (stepB n) (0, 0)).1 = 0 ↔ ((l.take i).foldl (stepB n) (0, 0)).2 = 0 := by
  rcases fold_mem n (l.take i) (0, 0) with h | h
  · rw [h]
  · have := hl _ (List.mem_of_mem_take h.1)
    omega

theorem l13Best_out (l : List (Int × Int)) (n : Int) (hlen : l.length ≤ 1000) (hl : ∀ r ∈ l, 0 < r.1 ∧ 0 < r.2) : spec_l13Best l n = some (bestP l n).1 := by
  unfold spec_l13Best spec_l13Best_l1
  rw [loop_some (r := bestP l n) l.length (fun i s => s = ((l.take i).foldl (stepB n) (0, 0), (i : Int))) (fun i s hi hs => by
    subst hs
    simp only [spec_l13Best_l1_b]
    by_cases hlt : i < l.length
    · obtain ⟨x, hx⟩ := get_at hlt
      refine .inr ⟨hlt, _, ?_, rfl⟩
      rw [best_step l n hx]
      have hz := best_zero l n hl i
      generalize (l.take i).foldl (stepB n) (0, 0) = b at hz
      rw [if_pos (by omega), if_pos (by omega), Int.toNat_natCast, hx, Option.bind_some, wrap_in (by omega) (by omega)]
      unfold stepB
      by_cases h1 : x.2 ≥ n
      · rw [if_pos h1, if_pos h1]
        by_cases h2 : b.1 = 0
        · rw [if_pos h2, if_pos (hz.1 h2), if_pos (by omega), Option.bind_some]; rfl
        · rw [if_neg h2, if_neg (fun h => h2 (hz.2 h)), if_pos (by omega), Option.bind_some]
          by_cases h3 : x.2 < b.2
          · rw [if_pos h3, if_pos h3, if_pos (by omega), Option.bind_some]; rfl
          · rw [if_neg h3, if_neg h3]; rfl
      · rw [if_neg h1, if_neg h1]; rfl
    · have : i = l.length := by omega
      subst this
      rw [if_neg (by omega), List.take_length]
      exact .inl rfl) l.length 0 _ (by omega) (by simp), Option.bind_some]

abbrev POut2 := DPager × Int × Int
abbrev outPg2 (p : DPager) (a c : Int) : POut2 := (p, a, c)

/-- What the allocation of blocks comes to: the pager, the first block, a code. -/
def allP (p : DPager) (n : Int) : DPager := setP p (areaK p) (markP (areaP p) (bestP (runsP p) n).1 n true)
def AllV (p : DPager) (n : Int) : Prop := SetV p (areaK p) (markP (areaP p) (bestP (runsP p) n).1 n true)
open Classical in
noncomputable def outA (p : DPager) (n : Int) : POut2 := if (bestP (runsP p) n).2 = 0 then outPg2 p 0 5 else if AllV p n then outPg2 (allP p n) (bestP (runsP p) n).1 0 else outPg2 p (bestP (runsP p) n).1 5

theorem best_bd {p : DPager} (hp : PagerV p) {n : Int} (h : (bestP (runsP p) n).2 ≠ 0) : areaK p < (bestP (runsP p) n).1 ∧ (bestP (runsP p) n).1 + n ≤ (p.1.1.length : Int) := by
  rcases bestP_cases (runsP p) n with h1 | ⟨h1, h2⟩
  · rw [h1] at h; exact absurd rfl h
  · have := runsP_bd hp _ h1
    omega

theorem l13Allocate_out (p : DPager) (n : Int) (hp : PagerV p) (hin : PagerIn p 1048576) (h1 : 1 ≤ n) (h2 : n ≤ 256) :
    spec_l13Allocate_of2 p n = some (outA p n) := by
  have ha := area_in hp
  have hb := runsP_bd hp
  have hl := runsP_len hp
  unfold spec_l13Allocate_of2 outA
  rw [l13Runs_out p hp hin, Option.bind_some, l13Best_out _ n (by omega) (fun r hr => by have := hb r hr; omega), Option.bind_some]
  by_cases hz : (bestP (runsP p) n).2 = 0
  · have hz1 : (bestP (runsP p) n).1 = 0 := by
      rcases bestP_cases (runsP p) n with h | ⟨h, _⟩
      · rw [h]
      · have := hb _ h; omega
    rw [if_pos hz1, if_pos hz]
  · have hbd := best_bd hp hz
    rw [if_neg (by omega), if_neg hz, l13Area_out p hp hin, Option.bind_some, l13Mark_out (areaP p) _ n true (areaP_len hp) (by omega) (by omega) (by omega), Option.bind_some, l13Put_out p _ hp hin, Option.bind_some]
    by_cases hs : AllV p n
    · rw [if_pos hs, if_pos (by unfold AllV at hs; exact hs)]; rfl
    · rw [if_neg hs, if_neg (by unfold AllV at hs; exact hs)]

theorem allocate_out (p : DPager) (n : Int) (hp : PagerV p) (hin : PagerIn p 1048576) (h1 : 1 ≤ n) (h2 : n ≤ 256) :
    impl_Pager_allocate_of2 p n = some (outA p n) := by
  have ha := area_in hp
  have hb := runsP_bd hp
  have hl := runsP_len hp
  unfold impl_Pager_allocate_of2 outA
  rw [freeRuns_out p hp hin, Option.bind_some]
  unfold impl_Pager_allocate_of2_l1
  rw [loop_some (r := (p, n, bestP (runsP p) n)) (runsP p).length (fun i s => s = (((runsP p).take i).foldl (stepB n) (0, 0), (i : Int))) (fun i s hi hs => by
    subst hs
    simp only [impl_Pager_allocate_of2_l1_b]
    by_cases hlt : i < (runsP p).length
    · obtain ⟨x, hx⟩ := get_at hlt
      refine .inr ⟨hlt, _, ?_, rfl⟩
      rw [best_step _ n hx]
      generalize ((runsP p).take i).foldl (stepB n) (0, 0) = b
      rw [if_pos (by omega), if_pos (by omega), Int.toNat_natCast, hx, Option.bind_some, wrap_in (by omega) (by omega)]
      unfold stepB
      by_cases h1 : x.2 ≥ n
      · rw [if_pos h1, if_pos h1]
        by_cases h2 : b.2 = 0
        · rw [if_pos h2, if_pos h2]; rfl
        · rw [if_neg h2, if_neg h2]
          by_cases h3 : x.2 < b.2
          · rw [if_pos h3, if_pos h3]; rfl
          · rw [if_neg h3, if_neg h3]; rfl
      · rw [if_neg h1, if_neg h1]; rfl
    · have : i = (runsP p).length := by omega
      subst this
      rw [if_neg (by omega), List.take_length]
      exact .inl rfl) (runsP p).length 0 _ (by omega) (by simp), Option.bind_some]
  by_cases hz : (bestP (runsP p) n).2 = 0
  · rw [if_pos hz, if_pos hz]
  · have hbd := best_bd hp hz
    rw [if_neg hz, if_neg hz, mark_out p (bestP (runsP p) n).1 n true hp hin (by omega) (by omega) (by omega), Option.bind_some]
    by_cases hs : AllV p n
    · rw [if_pos hs, if_pos (by unfold AllV at hs; exact hs)]; rfl
    · rw [if_neg hs, if_neg (by unfold AllV at hs; exact hs)]
end Go.Proofs.TM
