/- The law of Release, on data. -/
import Derived.Test.YtkkjaphfjlfpgaaGreatLPut
import Derived.Test.YtkkjaphfjlfpgaaGreatLMarkB
namespace Go.Proofs.TM
open Go Go.Proofs
set_option linter.unusedVariables false
set_option linter.unusedSimpArgs false
set_option maxHeartbeats 1000000

def AllBit (p : DPager) (k n : Int) : Prop := ∀ j : Nat, (j : Int) < n → bitP (areaP p) (k + j) = true
open Classical in
noncomputable def outRe (p : DPager) (k n : Int) : POut :=
  if PagerV p then (if 1 ≤ n ∧ n ≤ 256 ∧ areaK p < k ∧ k ≤ (p.1.1.length : Int) - n then (if AllBit p k n then (if SetV p (areaK p) (markP (areaP p) k n false) then outPg (setP p (areaK p) (markP (areaP p) k n false)) 0 else outPg noPg 5) else outPg noPg 6) else outPg noPg 2) else outPg noPg 1

/-- A loop over blocks that goes on while they are allocated. -/
theorem bits_loop {ρ : Type} (p : DPager) (k n : Int) (h0 : 0 ≤ k) (hn : 0 ≤ n) (rT rF : ρ) (f : Int → Option (Int ⊕ ρ))
    (h1 : ∀ j : Nat, (j : Int) < n → f (k + j) = some (if bitP (areaP p) (k + j) = true then .inl (k + j + 1) else .inr rF)) (h2 : f (k + n) = some (.inr rT)) :
    loopO f k = some (@ite _ (AllBit p k n) (Classical.propDecidable _) rT rF) := by
  obtain ⟨r, hr, hp⟩ := loop_ex (f := f) (fun r => (AllBit p k n ∧ r = rT) ∨ (¬ AllBit p k n ∧ r = rF)) n.toNat
    (fun i s => s = k + i ∧ (i : Int) ≤ n ∧ ∀ j : Nat, j < i → bitP (areaP p) (k + j) = true) (fun i s hi hs => by
      obtain ⟨rfl, hin, hb⟩ := hs
      by_cases hlt : (i : Int) < n
      · rw [h1 i hlt]
        by_cases hbit : bitP (areaP p) (k + i) = true
        · rw [if_pos hbit]
          refine .inr ⟨by omega, _, rfl, by omega, by omega, fun j hj => ?_⟩
          by_cases hji : j = i
          · subst hji; exact hbit
          · exact hb j (by omega)
        · rw [if_neg hbit]
          exact .inl ⟨_, rfl, .inr ⟨fun hall => hbit (hall i hlt), rfl⟩⟩
      · have : (i : Int) = n := by omega
        rw [this, h2]
        exact .inl ⟨_, rfl, .inl ⟨fun j hj => hb j (by omega), rfl⟩⟩) n.toNat 0 k (by omega) ⟨by omega, by omega, fun j hj => by omega⟩
  rw [hr]
  rcases hp with ⟨h, rfl⟩ | ⟨h, rfl⟩
  · rw [if_pos h]
  · rw [if_neg h]

theorem spec_Release_out (p : DPager) (k n : Int) (hin : PagerIn p 1048576) (hn : -9223372036854775808 ≤ n) (hn' : n ≤ 9223372036854775807) : spec_Release p k n = some (outRe p k n) := by
  unfold spec_Release outRe
  simp only [l12Ok_out p hin, Option.bind_some, deq]
  by_cases h : PagerV p
  case neg => rw [if_pos (by simpa using h), if_neg h]; rfl
  have ha := area_in h
  have hl := areaP_len h
  rw [if_neg (by simpa using h), if_pos h, l12Own_out p hin, Option.bind_some]
  unfold spec_l13Release_oe8
  simp only [pg_eta]
  rw [l13Data_out p h k n hn hn', Option.bind_some]
  by_cases hd : 1 ≤ n ∧ n ≤ 256 ∧ areaK p < k ∧ k ≤ (p.1.1.length : Int) - n
  case neg => rw [if_pos (by simpa using hd), if_neg hd]; rfl
  rw [if_neg (by simpa using hd), if_pos hd, l13Area_out p h hin, Option.bind_some]
  have hw : IntKind.i64.wrap (k + n) = k + n := wrap_in (by omega) (by omega)
  unfold spec_l13Release_oe8_l1
  rw [bits_loop p k n (by omega) (by omega) (.inl (p.1.1, p.1.2.1, p.1.2.2.1, p.1.2.2.2, p.2.1.1, p.2.1.2.1, p.2.1.2.2.1, p.2.1.2.2.2, p.2.2.1, p.2.2.2.1, p.2.2.2.2.1, p.2.2.2.2.2, k, n, areaP p)) (.inr (outPg p 6)) _ (fun j hj => by
    simp only [spec_l13Release_oe8_l1_b]
    rw [hw, if_pos (by omega), l13Bit_out (areaP p) (k + j) hl (by omega) (by omega), Option.bind_some, wrap_in (n := k + j + 1) (by omega) (by omega)]
    by_cases hb : bitP (areaP p) (k + j) = true
    · rw [if_neg (by simpa using hb), if_pos hb]
    · rw [if_pos (by simpa using hb), if_neg hb]; rfl) (by
    simp only [spec_l13Release_oe8_l1_b]
    rw [hw, if_neg (by omega)]), Option.bind_some]
  by_cases hb : AllBit p k n
  case neg => rw [if_neg hb, if_neg hb]; rfl
  rw [if_pos hb, if_pos hb]
  simp only [Sum.elim_inl]
  rw [l13Mark_out (areaP p) k n false hl (by omega) (by omega) (by omega), Option.bind_some, l13Put_out p _ h hin, Option.bind_some, Option.bind_some]
  by_cases hs : SetV p (areaK p) (markP (areaP p) k n false)
  · rw [if_pos hs, if_pos hs]; rfl
  · rw [if_neg hs, if_neg hs]; rfl

theorem impl_Release_out (p : DPager) (k n : Int) (hin : PagerIn p 1048576) : impl_Release p k n = some (outRe p k n) := by
  unfold impl_Release outRe
  simp only [ValidPager_out p hin, Option.bind_some, deq]
  by_cases h : PagerV p
  case neg => rw [if_pos (by simpa using h), if_neg h]; rfl
  have ha := area_in h
  have hl := areaP_len h
  rw [if_neg (by simpa using h), if_pos h]
  have hwi : impl_within n 1 256 = some (decide (1 ≤ n ∧ n ≤ 256)) := by
    unfold impl_within
    by_cases h1 : 1 ≤ n <;> by_cases h2 : n ≤ 256 <;> simp [h1, h2]
  rw [hwi, Option.bind_some]
  by_cases hnn : 1 ≤ n ∧ n ≤ 256
  case neg => rw [if_pos (by simpa using hnn), if_neg (fun hh => hnn ⟨hh.1, hh.2.1⟩)]; rfl
  rw [if_neg (by simpa using hnn)]
  unfold impl_Pager_changed_Release_c1 impl_Release_c1_o92 impl_Pager_release_oe8
  rw [clone_out p hin, Option.bind_some]
  simp only [pg_eta]
  rw [isData_out p h k n (by omega) (by omega), Option.bind_some]
  by_cases hd : areaK p < k ∧ k ≤ (p.1.1.length : Int) - n
  case neg => rw [if_pos (by simpa using hd), if_neg (fun hh => hd hh.2.2)]; rfl
  rw [if_neg (by simpa using hd), if_pos ⟨hnn.1, hnn.2, hd⟩]
  have hw : IntKind.i64.wrap (k + n) = k + n := wrap_in (by omega) (by omega)
  unfold impl_Pager_release_oe8_l1
  rw [bits_loop p k n (by omega) (by omega) (.inl (p.1.1, p.1.2.1, p.1.2.2.1, p.1.2.2.2, p.2.1.1, p.2.1.2.1, p.2.1.2.2.1, p.2.1.2.2.2, p.2.2.1, p.2.2.2.1, p.2.2.2.2.1, p.2.2.2.2.2, k, n)) (.inr (outPg p 6)) _ (fun j hj => by
    simp only [impl_Pager_release_oe8_l1_b, pg_eta]
    rw [hw, if_pos (by omega), allocated_out p h hin (k + j) (by omega) (by omega), Option.bind_some, wrap_in (n := k + j + 1) (by omega) (by omega)]
    by_cases hb : bitP (areaP p) (k + j) = true
    · rw [if_neg (by simpa using hb), if_pos hb]
    · rw [if_pos (by simpa using hb), if_neg hb]; rfl) (by
    simp only [impl_Pager_release_oe8_l1_b]
    rw [hw, if_neg (by omega)]), Option.bind_some]
  by_cases hb : AllBit p k n
  case neg => rw [if_neg hb, if_neg hb]; rfl
  rw [if_pos hb, if_pos hb]
  simp only [Sum.elim_inl]
  rw [mark_out p k n false h hin (by omega) (by omega) (by omega), Option.bind_some, Option.bind_some, Option.bind_some]
  by_cases hs : SetV p (areaK p) (markP (areaP p) k n false)
  · rw [if_pos hs, if_pos hs]; rfl
  · rw [if_neg hs, if_neg hs]; rfl

theorem outRe_in (p : DPager) (k n : Int) (hin : PagerIn p 1048576) : PagerIn (outRe p k n).pg 1048576 := by
  unfold outRe
  split
  · rename_i h
    split
    · split
      · split
        · exact setP_in p _ _ h hin
        · exact noPg_in
      · exact noPg_in
    · exact noPg_in
  · exact noPg_in

theorem FnExactRelease_true (p : DPager) (k n : Int) (h : Gd.ok p) (_ : Gd.ok k) (hn : Gd.ok n) : laws_FnExactRelease p k n = some true := by
  unfold laws_FnExactRelease
  obtain ⟨r, hr, hin⟩ := szPager_out p (pagerOk_of h)
  rw [hr, Option.bind_some]
  by_cases hneg : r < 0
  · rw [if_pos hneg]
  rw [if_neg hneg]
  have hin := hin (by omega)
  have hS := spec_Release_out p k n hin hn.1 hn.2
  have hI := impl_Release_out p k n hin
  have hoin := outRe_in p k n hin
  generalize outRe p k n = o at hS hI hoin
  unfold POut.pg at hoin
  obtain ⟨w, hw, w1, w2, w3, w4, w5, w6⟩ := markPager_out p hin
  obtain ⟨u, hu, u1, u2, u3, u4, u5, u6⟩ := markPager_out _ hoin
  simp only at hu u1 u2 u3 u4 u5 u6
  simp only [toPager_out p hin, Option.bind_some, flatP, pg_eta, hS, hI, eqPager_same _ hoin, eqPager_same p hin, not_true_eq_false, if_false, hw, w1, w2, w3, w4, w5, and_self, if_true, hu, u1, u2, u3, u4, u5, u6]
end Go.Proofs.TM
