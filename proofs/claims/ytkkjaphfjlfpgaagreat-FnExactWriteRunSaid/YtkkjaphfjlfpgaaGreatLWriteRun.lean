/- The law of WriteRun, on data. -/
import Derived.Test.YtkkjaphfjlfpgaaGreatLSet
import Derived.Test.YtkkjaphfjlfpgaaGreatLArea
import Derived.Test.YtkkjaphfjlfpgaaGreatLPad
namespace Go.Proofs.TM
open Go Go.Proofs
set_option linter.unusedVariables false
set_option linter.unusedSimpArgs false
set_option maxHeartbeats 1000000

theorem subL_from (s : Str) (k : Nat) (h : k ≤ s.length) : subL s (some (k : Int)) none = some (s.drop k) := by
  simp [subL, bound, h]
theorem subL_to (s : Str) (k : Nat) (h : k ≤ s.length) : subL s none (some (k : Int)) = some (s.take k) := by
  simp [subL, bound, h]
theorem subL_mid (s : Str) (a b : Nat) (h : a ≤ b) (h' : b ≤ s.length) : subL s (some (a : Int)) (some (b : Int)) = some ((s.take b).drop a) := by
  simp [subL, bound, h, h']
theorem happ16s (l : List Str) (x : Str) (h : l.length ≤ 100000) : appL 16 l (lit [x]) = some (l ++ [x]) := by unfold appL lit; rw [if_pos (by simp [maxRow]; omega)]

/-- A block of a string. -/
def blkD (s : Str) (i : Nat) : Str := (s.drop (64 * i)).take 64
theorem blkD_len (s : Str) (i : Nat) (h : 64 * (i + 1) ≤ s.length) : (blkD s i).length = 64 := by simp [blkD]; omega
theorem blkD_mid (s : Str) (i : Nat) : (s.take (64 * (i + 1))).drop (64 * i) = blkD s i := by
  rw [List.drop_take, show 64 * (i + 1) - 64 * i = 64 by omega]; rfl

theorem blocksOf_out (s : Str) (n : Nat) (h : s.length = 64 * n) (hn : n ≤ 2000) : impl_blocksOf s = some ((List.range n).map (blkD s)) := by
  unfold impl_blocksOf impl_blocksOf_l1
  obtain ⟨r, hr, rfl⟩ := loop_meas (f := fun st => impl_blocksOf_l1_b st.1 st.2) (fun r => r = (List.range n).map (blkD s)) (fun st => st.1.length) (fun st => ∃ i, i ≤ n ∧ st = (s.drop (64 * i), (List.range i).map (blkD s)))
    (fun st hs => by
      obtain ⟨i, hi, rfl⟩ := hs
      simp only [impl_blocksOf_l1_b]
      by_cases hlt : i < n
      · have hne : ¬ (s.drop (64 * i) = ([] : Str)) := by
          intro hh
          have := congrArg List.length hh
          simp at this; omega
        have h1 : subL (s.drop (64 * i)) none (some 64) = some ((s.drop (64 * i)).take 64) := subL_to _ 64 (by simp; omega)
        have h2 : subL (s.drop (64 * i)) (some 64) none = some ((s.drop (64 * i)).drop 64) := subL_from _ 64 (by simp; omega)
        rw [if_pos hne, h1, Option.bind_some, happ16s _ _ (by simp; omega), Option.bind_some, h2, Option.bind_some]
        refine .inr ⟨_, rfl, ⟨i + 1, by omega, ?_⟩, by simp; omega⟩
        rw [List.drop_drop, List.range_succ, List.map_append, show 64 * i + 64 = 64 * (i + 1) by omega]; rfl
      · have : i = n := by omega
        subst this
        have he : s.drop (64 * i) = ([] : Str) := List.drop_eq_nil_of_le (by omega)
        rw [if_neg (by simpa using he)]
        exact .inl ⟨_, rfl, rfl⟩) _ (s, []) rfl ⟨0, Nat.zero_le _, by simp⟩
  rw [hr, Option.bind_some]

/-- How many blocks a string takes; the string filled up. -/
def nB (s : Str) : Nat := max 1 ((s.length + 63) / 64)
def padD (s : Str) : Str := s ++ List.replicate (nB s * 64 - s.length) 0
theorem nB_ge (s : Str) : s.length ≤ nB s * 64 := by unfold nB; omega
theorem padD_len (s : Str) : (padD s).length = 64 * nB s := by have := nB_ge s; simp [padD]; omega

theorem iblocksFor_out (s : Str) (h : s.length ≤ 1048576) : impl_blocksFor (s.length : Int) = some (nB s : Int) := by
  unfold impl_blocksFor nB
  rw [wrap_in (n := (s.length : Int) + 64) (by omega) (by omega), wrap_in (n := (s.length : Int) + 64 - 1) (by omega) (by omega), Int.tdiv_eq_ediv_of_nonneg (by omega), wrap_in (by omega) (by omega)]
  congr 1
  omega
theorem sBlocksFor_out (s : Str) (h : s.length ≤ 1048576) : spec_BlocksFor (s.length : Int) = some (if s.length ≤ 65536 then (nB s : Int) else 0) := by
  unfold spec_BlocksFor spec_l00In spec_l00Max
  by_cases hl : s.length ≤ 65536
  · rw [if_pos hl, if_pos (by omega)]
    simp only [Option.bind_some]
    rw [if_neg (by simp; omega), wrap_in (n := (s.length : Int) + 64) (by omega) (by omega), wrap_in (n := (s.length : Int) + 64 - 1) (by omega) (by omega), Int.tdiv_eq_ediv_of_nonneg (by omega), wrap_in (by omega) (by omega)]
    unfold nB
    split <;> (simp only [Option.bind_some]; congr 1; omega)
  · rw [if_neg hl, if_pos (by omega)]
    simp only [Option.bind_some]
    rw [if_pos (by simp; omega)]

/-- Blocks set one behind the other. -/
noncomputable def setsP (p : DPager) (k : Int) (d : Str) : Nat → Option DPager
  | 0 => some p
  | i + 1 => (setsP p k d i).bind fun q => @ite _ (SetV q (k + i) (blkD d i)) (Classical.propDecidable _) (some (setP q (k + i) (blkD d i))) none

abbrev PFlat := List Str × (List (Int × Str)) × Int × Bool × Int × Int × Int × Int × Int × Int × (List (Int × Str)) × (List (Int × Str))

theorem sets_loop (p : DPager) (k : Int) (d : Str) (n : Nat) (hp : PagerV p) (hin : PagerIn p 1048576) (hk : areaK p < k) (hkn : k + n ≤ (p.1.1.length : Int)) (hd : d.length = 64 * n) (f : POut → Option (POut ⊕ (PFlat ⊕ POut)))
    (h1 : ∀ (q : DPager) (i : Nat), PagerV q → PagerIn q 1048576 → i < n → f (outPg q i) = some (@ite _ (SetV q (k + i) (blkD d i)) (Classical.propDecidable _) (.inl (outPg (setP q (k + i) (blkD d i)) ((i : Int) + 1))) (.inr (.inr (outPg q 5)))))
    (h2 : ∀ q : DPager, f (outPg q n) = some (.inr (.inl (flatP q)))) :
    ∃ r, loopO f (outPg p 0) = some r ∧ ((∃ q, setsP p k d n = some q ∧ PagerIn q 1048576 ∧ r = .inl (flatP q)) ∨ (setsP p k d n = none ∧ ∃ q, r = .inr (outPg q 5))) := by
  have hnone : ∀ i m, setsP p k d i = none → setsP p k d (i + m) = none := fun i m hh => by
    induction m with
    | zero => exact hh
    | succ m ih => show (setsP p k d (i + m)).bind _ = none; rw [ih]; rfl
  refine loop_ex (f := f) (fun r => (∃ q, setsP p k d n = some q ∧ PagerIn q 1048576 ∧ r = .inl (flatP q)) ∨ (setsP p k d n = none ∧ ∃ q, r = .inr (outPg q 5))) n
    (fun i s => ∃ q, s = outPg q i ∧ setsP p k d i = some q ∧ PagerV q ∧ PagerIn q 1048576 ∧ q.1 = p.1 ∧ q.2.1 = p.2.1) (fun i s hi hs => ?_) n 0 _ (by omega) ⟨p, rfl, rfl, hp, hin, rfl, rfl⟩
  obtain ⟨q, rfl, hq, hv, hqi, e1, e2⟩ := hs
  by_cases hlt : i < n
  · rw [h1 q i hv hqi hlt]
    by_cases hset : SetV q (k + i) (blkD d i)
    · rw [if_pos hset]
      refine .inr ⟨hlt, _, rfl, setP q (k + i) (blkD d i), ?_, ?_, ?_, setP_in q _ _ hv hqi, e1, e2⟩
      · rw [show ((i + 1 : Nat) : Int) = (i : Int) + 1 by omega]
      · show (setsP p k d i).bind _ = _
        rw [hq, Option.bind_some, if_pos hset]
      · have ha := area_in hp
        refine setP_valid q _ _ hv ?_ ?_ (blkD_len d i (by omega)) hset
        · rw [e2]; unfold areaK at hk; omega
        · rw [e2]; omega
    · rw [if_neg hset]
      refine .inl ⟨_, rfl, .inr ⟨?_, q, rfl⟩⟩
      have hi1 : setsP p k d (i + 1) = none := by
        show (setsP p k d i).bind _ = none
        rw [hq, Option.bind_some, if_neg hset]
      have := hnone (i + 1) (n - (i + 1)) hi1
      rwa [show i + 1 + (n - (i + 1)) = n by omega] at this
  · have : i = n := by omega
    subst this
    rw [h2 q]
    exact .inl ⟨_, rfl, .inl ⟨q, hq, hqi, rfl⟩⟩

open Classical in
noncomputable def outWR (p : DPager) (k : Int) (d : Str) : POut :=
  if PagerV p then (if d.length ≤ 65536 ∧ areaK p < k ∧ k ≤ (p.1.1.length : Int) - nB d then (match setsP p k (padD d) (nB d) with | some q => outPg q 0 | none => outPg noPg 5) else outPg noPg 2) else outPg noPg 1

theorem spec_WriteRun_out (p : DPager) (k : Int) (d : Str) (hin : PagerIn p 1048576) (hd : d.length ≤ 1048576) : ∃ o, spec_WriteRun p k d = some o ∧ o = outWR p k d ∧ PagerIn (POut.pg o) 1048576 := by
  unfold spec_WriteRun outWR
  simp only [l12Ok_out p hin, Option.bind_some, deq]
  by_cases h : PagerV p
  case neg => rw [if_pos (by simpa using h), if_neg h]; exact ⟨_, rfl, rfl, noPg_in⟩
  have ha := area_in h
  rw [if_neg (by simpa using h), if_pos h, sBlocksFor_out d hd, Option.bind_some, l13Data_out p h k _ (by split <;> omega) (by unfold nB; split <;> omega), Option.bind_some]
  by_cases hr : d.length ≤ 65536 ∧ areaK p < k ∧ k ≤ (p.1.1.length : Int) - nB d
  case neg =>
    rw [if_pos (by
      simp only [decide_eq_true_eq]
      intro hh
      by_cases hl : d.length ≤ 65536
      · rw [if_pos hl] at hh; exact hr ⟨hl, hh.2.2.1, hh.2.2.2⟩
      · rw [if_neg hl] at hh; omega), if_neg hr]
    exact ⟨_, rfl, rfl, noPg_in⟩
  have hnb : 1 ≤ nB d := by unfold nB; omega
  rw [if_neg (by
    simp only [decide_eq_true_eq, Classical.not_not]
    rw [if_pos hr.1]; omega), if_pos hr, l12Own_out p hin, Option.bind_some]
  unfold spec_l13Write_oc8
  simp only
  rw [sBlocksFor_out d hd, Option.bind_some, if_pos hr.1, wrap_in (n := (nB d : Int) * 64) (by omega) (by omega), show (nB d : Int) * 64 = ((nB d * 64 : Nat) : Int) by omega, l01Pad_out d (nB d * 64) (nB_ge d) (by omega), Option.bind_some]
  rw [show d ++ List.replicate (nB d * 64 - d.length) 0 = padD d from rfl]
  have hpl := padD_len d
  unfold spec_l13Write_oc8_l1
  obtain ⟨r, e1, e2⟩ := sets_loop p k (padD d) (nB d) h hin hr.2.1 (by omega) hpl (fun s => spec_l13Write_oc8_l1_b k (nB d : Int) (padD d) s.1 s.2.1 s.2.2.1 s.2.2.2.1 s.2.2.2.2.1 s.2.2.2.2.2.1 s.2.2.2.2.2.2.1 s.2.2.2.2.2.2.2.1 s.2.2.2.2.2.2.2.2.1 s.2.2.2.2.2.2.2.2.2.1 s.2.2.2.2.2.2.2.2.2.2.1 s.2.2.2.2.2.2.2.2.2.2.2.1 s.2.2.2.2.2.2.2.2.2.2.2.2)
    (fun q i hv hqi hi => by
      show spec_l13Write_oc8_l1_b k (nB d : Int) (padD d) q.1.1 q.1.2.1 q.1.2.2.1 q.1.2.2.2 q.2.1.1 q.2.1.2.1 q.2.1.2.2.1 q.2.1.2.2.2 q.2.2.1 q.2.2.2.1 q.2.2.2.2.1 q.2.2.2.2.2 (i : Int) = _
      unfold spec_l13Write_oc8_l1_b
      have hs := subL_mid (padD d) (64 * i) (64 * (i + 1)) (by omega) (by omega)
      rw [blkD_mid] at hs
      by_cases hset : SetV q (k + i) (blkD (padD d) i)
      · rw [if_pos hset, if_pos (show (i : Int) < (nB d : Int) by omega), wrap_in (n := (i : Int) * 64) (by omega) (by omega), wrap_in (n := (i : Int) + 1) (by omega) (by omega), wrap_in (n := ((i : Int) + 1) * 64) (by omega) (by omega), show (i : Int) * 64 = ((64 * i : Nat) : Int) by omega, show ((i : Int) + 1) * 64 = ((64 * (i + 1) : Nat) : Int) by omega, hs, Option.bind_some, wrap_in (n := k + i) (by omega) (by omega),
          l12Set_out q (k + i) (blkD (padD d) i) hqi, Option.bind_some, if_pos hset]; rfl
      · rw [if_neg hset, if_pos (show (i : Int) < (nB d : Int) by omega), wrap_in (n := (i : Int) * 64) (by omega) (by omega), wrap_in (n := (i : Int) + 1) (by omega) (by omega), wrap_in (n := ((i : Int) + 1) * 64) (by omega) (by omega), show (i : Int) * 64 = ((64 * i : Nat) : Int) by omega, show ((i : Int) + 1) * 64 = ((64 * (i + 1) : Nat) : Int) by omega, hs, Option.bind_some, wrap_in (n := k + i) (by omega) (by omega),
          l12Set_out q (k + i) (blkD (padD d) i) hqi, Option.bind_some, if_neg hset]; rfl)
    (fun q => by
      show spec_l13Write_oc8_l1_b k (nB d : Int) (padD d) q.1.1 q.1.2.1 q.1.2.2.1 q.1.2.2.2 q.2.1.1 q.2.1.2.1 q.2.1.2.2.1 q.2.1.2.2.2 q.2.2.1 q.2.2.2.1 q.2.2.2.2.1 q.2.2.2.2.2 (nB d : Int) = _
      unfold spec_l13Write_oc8_l1_b
      rw [if_neg (by omega)]; rfl)
  rw [show ((p.1.1, p.1.2.1, p.1.2.2.1, p.1.2.2.2, p.2.1.1, p.2.1.2.1, p.2.1.2.2.1, p.2.1.2.2.2, p.2.2.1, p.2.2.2.1, p.2.2.2.2.1, p.2.2.2.2.2, (0 : Int)) : POut) = outPg p 0 from rfl, e1, Option.bind_some]
  rcases e2 with ⟨q, hq, hqi, rfl⟩ | ⟨hq, q, rfl⟩
  · rw [hq]; exact ⟨_, rfl, rfl, hqi⟩
  · rw [hq]; exact ⟨_, rfl, rfl, noPg_in⟩

theorem impl_WriteRun_out (p : DPager) (k : Int) (d : Str) (hin : PagerIn p 1048576) (hd : d.length ≤ 1048576) : impl_WriteRun p k d = some (outWR p k d) := by
  unfold impl_WriteRun outWR
  simp only [ValidPager_out p hin, Option.bind_some, deq]
  by_cases h : PagerV p
  case neg => rw [if_pos (by simpa using h), if_neg h]; rfl
  have ha := area_in h
  have hnb : 1 ≤ nB d ∧ nB d ≤ 20000 := by unfold nB; omega
  rw [if_neg (by simpa using h), if_pos h]
  have hrun : impl_Pager_isRun p k (d.length : Int) = some (decide (d.length ≤ 65536 ∧ areaK p < k ∧ k ≤ (p.1.1.length : Int) - nB d)) := by
    unfold impl_Pager_isRun impl_within
    by_cases hl : d.length ≤ 65536
    · have h1 : (d.length : Int) ≥ 0 := by omega
      have h2 : (d.length : Int) ≤ 65536 := by omega
      simp only [h1, h2, if_true, Option.bind_some, decide_true]
      rw [iblocksFor_out d hd, Option.bind_some, isData_out p h k _ (by omega) (by omega), Option.bind_some]
      simp [hl]
    · have h1 : (d.length : Int) ≥ 0 := by omega
      have h2 : ¬ (d.length : Int) ≤ 65536 := by omega
      simp [h1, h2, hl]
  rw [hrun, Option.bind_some]
  by_cases hr : d.length ≤ 65536 ∧ areaK p < k ∧ k ≤ (p.1.1.length : Int) - nB d
  case neg => rw [if_pos (by simpa using hr), if_neg hr]; rfl
  rw [if_neg (by simpa using hr), if_pos hr]
  unfold impl_Pager_changed_WriteRun_c1 impl_WriteRun_c1_o75 impl_Pager_writeRun_oc8
  rw [clone_out p hin, Option.bind_some]
  simp only
  have hpl := padD_len d
  rw [iblocksFor_out d hd, Option.bind_some, wrap_in (n := (nB d : Int) * 64) (by omega) (by omega), show (nB d : Int) * 64 = ((nB d * 64 : Nat) : Int) by omega, padded_out d (nB d * 64) (nB_ge d) (by omega), Option.bind_some,
    show d ++ List.replicate (nB d * 64 - d.length) 0 = padD d from rfl, blocksOf_out (padD d) (nB d) hpl (by omega), Option.bind_some]
  unfold impl_Pager_writeRun_oc8_l1
  obtain ⟨r, e1, e2⟩ := sets_loop p k (padD d) (nB d) h hin hr.2.1 (by omega) hpl (fun s => impl_Pager_writeRun_oc8_l1_b k ((List.range (nB d)).map (blkD (padD d))) (((((List.range (nB d)).map (blkD (padD d))).length : Nat)) : Int) s.1 s.2.1 s.2.2.1 s.2.2.2.1 s.2.2.2.2.1 s.2.2.2.2.2.1 s.2.2.2.2.2.2.1 s.2.2.2.2.2.2.2.1 s.2.2.2.2.2.2.2.2.1 s.2.2.2.2.2.2.2.2.2.1 s.2.2.2.2.2.2.2.2.2.2.1 s.2.2.2.2.2.2.2.2.2.2.2.1 s.2.2.2.2.2.2.2.2.2.2.2.2)
    (fun q i hv hqi hi => by
      show impl_Pager_writeRun_oc8_l1_b k ((List.range (nB d)).map (blkD (padD d))) (((((List.range (nB d)).map (blkD (padD d))).length : Nat)) : Int) q.1.1 q.1.2.1 q.1.2.2.1 q.1.2.2.2 q.2.1.1 q.2.1.2.1 q.2.1.2.2.1 q.2.1.2.2.2 q.2.2.1 q.2.2.2.1 q.2.2.2.2.1 q.2.2.2.2.2 (i : Int) = _
      unfold impl_Pager_writeRun_oc8_l1_b
      have hg : ((List.range (nB d)).map (blkD (padD d)))[i]? = some (blkD (padD d) i) := by simp [hi]
      by_cases hset : SetV q (k + i) (blkD (padD d) i)
      · rw [if_pos hset, if_pos (by simp; omega), if_pos (by simp; omega), Int.toNat_natCast, hg, Option.bind_some, wrap_in (n := k + i) (by omega) (by omega), set_out q (k + i) (blkD (padD d) i) hv hqi, Option.bind_some, wrap_in (n := (i : Int) + 1) (by omega) (by omega), if_pos hset]; rfl
      · rw [if_neg hset, if_pos (by simp; omega), if_pos (by simp; omega), Int.toNat_natCast, hg, Option.bind_some, wrap_in (n := k + i) (by omega) (by omega), set_out q (k + i) (blkD (padD d) i) hv hqi, Option.bind_some, wrap_in (n := (i : Int) + 1) (by omega) (by omega), if_neg hset]; rfl)
    (fun q => by
      show impl_Pager_writeRun_oc8_l1_b k ((List.range (nB d)).map (blkD (padD d))) (((((List.range (nB d)).map (blkD (padD d))).length : Nat)) : Int) q.1.1 q.1.2.1 q.1.2.2.1 q.1.2.2.2 q.2.1.1 q.2.1.2.1 q.2.1.2.2.1 q.2.1.2.2.2 q.2.2.1 q.2.2.2.1 q.2.2.2.2.1 q.2.2.2.2.2 (nB d : Int) = _
      unfold impl_Pager_writeRun_oc8_l1_b
      rw [if_neg (by simp)]; rfl)
  rw [show ((p.1.1, p.1.2.1, p.1.2.2.1, p.1.2.2.2, p.2.1.1, p.2.1.2.1, p.2.1.2.2.1, p.2.1.2.2.2, p.2.2.1, p.2.2.2.1, p.2.2.2.2.1, p.2.2.2.2.2, (0 : Int)) : POut) = outPg p 0 from rfl, e1, Option.bind_some]
  rcases e2 with ⟨q, hq, hqi, rfl⟩ | ⟨hq, q, rfl⟩
  · rw [hq]; rfl
  · rw [hq]; rfl

theorem FnExactWriteRun_true (p : DPager) (k : Int) (d : Str) (h : Gd.ok p) (_ : Gd.ok k) (_ : Gd.ok d) : laws_FnExactWriteRun p k d = some true := by
  unfold laws_FnExactWriteRun
  by_cases hb : (d.length : Int) > 1048576
  · rw [if_pos hb]
  rw [if_neg hb]
  obtain ⟨r, hr, hin⟩ := szPager_out p (pagerOk_of h)
  rw [hr, Option.bind_some]
  by_cases hneg : r < 0
  · rw [if_pos hneg]
  rw [if_neg hneg]
  have hin := hin (by omega)
  obtain ⟨o, hS, ho, hoin⟩ := spec_WriteRun_out p k d hin (by omega)
  have hI := impl_WriteRun_out p k d hin (by omega)
  rw [← ho] at hI
  clear ho
  unfold POut.pg at hoin
  obtain ⟨w, hw, w1, w2, w3, w4, w5, w6⟩ := markPager_out p hin
  obtain ⟨u, hu, u1, u2, u3, u4, u5, u6⟩ := markPager_out _ hoin
  simp only at hu u1 u2 u3 u4 u5 u6
  simp only [toPager_out p hin, Option.bind_some, flatP, pg_eta, hS, hI, eqPager_same _ hoin, eqPager_same p hin, not_true_eq_false, if_false, hw, w1, w2, w3, w4, w5, and_self, if_true, hu, u1, u2, u3, u4, u5, u6]
end Go.Proofs.TM
