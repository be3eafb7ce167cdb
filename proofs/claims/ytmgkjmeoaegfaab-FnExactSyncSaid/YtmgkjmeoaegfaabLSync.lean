/- The law of Sync, on data. -/
import Derived.Test.YtmgkjmeoaegfaabLPagerLaw
namespace Go.Proofs.TM
open Go Go.Proofs
set_option linter.unusedVariables false
set_option linter.unusedSimpArgs false
set_option maxHeartbeats 1000000

/-- Blocks after so many of the writes. -/
def barL (b : List Str) (p : List (Int × Str)) : Nat → List Str
  | 0 => b
  | i + 1 => (barL b p i).set (p.getD i (0, [])).1.toNat (p.getD i (0, [])).2
theorem barL_len (b : List Str) (p : List (Int × Str)) : ∀ i, (barL b p i).length = b.length
  | 0 => rfl
  | i + 1 => by simp [barL, barL_len b p i]

theorem bar_loop (b : List Str) (p : List (Int × Str)) (hp : ∀ x ∈ p, 0 ≤ x.1 ∧ x.1 ≤ (b.length : Int) - 1) (hl : p.length ≤ 1048576) {ρ : Type} (R : List Str → ρ) (f : List Str × Int → Option ((List Str × Int) ⊕ ρ))
    (h1 : ∀ (m : List Str) (i : Nat) (x : Int × Str) (y : Str), p[i]? = some x → m.length = b.length → m[x.1.toNat]? = some y → i < p.length → 0 ≤ x.1 → x.1 < (m.length : Int) → f (m, (i : Int)) = some (.inl (m.set x.1.toNat x.2, (i : Int) + 1)))
    (h2 : ∀ m, f (m, (p.length : Int)) = some (.inr (R m))) : loopO f (b, 0) = some (R (barL b p p.length)) := by
  refine loop_some p.length (fun i s => s = (barL b p i, (i : Int))) (fun i s hi hs => ?_) p.length 0 _ (by omega) rfl
  subst hs
  by_cases hn : i < p.length
  · obtain ⟨x, hx⟩ := get_at hn
    have hb := hp x (List.mem_of_getElem? hx)
    have hlen := barL_len b p i
    obtain ⟨y, hy⟩ := get_at (l := barL b p i) (i := x.1.toNat) (by omega)
    refine .inr ⟨hn, _, h1 _ i x y hx hlen hy hn hb.1 (by omega), ?_⟩
    simp [barL, List.getD_eq_getElem?_getD, hx]
  · have : i = p.length := by omega
    subst this
    exact .inl (h2 _)

def syncP (p : DPager) : DPager := ((barL p.1.1 p.1.2.1 p.1.2.1.length, [], if p.1.2.2.1 > 0 then p.1.2.2.1 - 1 else p.1.2.2.1, p.1.2.2.2), p.2)
def offP (p : DPager) : DPager := ((p.1.1, p.1.2.1, p.1.2.2.1, true), p.2)
open Classical in
noncomputable def outSy (p : DPager) : POut := if PagerV p then (if p.1.2.2.2 = true ∨ p.1.2.2.1 = 0 then outPg (offP p) 13 else outPg (syncP p) 0) else outPg noPg 1

theorem l12Own_out (p : DPager) (h : PagerIn p 1048576) : spec_l12Own p = some (p.1.1, p.1.2.1, p.1.2.2.1, p.1.2.2.2, p.2.1.1, p.2.1.2.1, p.2.1.2.2.1, p.2.1.2.2.2, p.2.2.1, p.2.2.2.1, p.2.2.2.2.1, p.2.2.2.2.2) := by
  obtain ⟨h1, h2, h3, h4⟩ := h
  unfold spec_l12Own spec_l09Own spec_l12Pages
  rw [appL_nil 16 _ (by unfold maxRow; omega), appL_nil 24 _ (by unfold maxRow; omega), appL_nil 24 _ (by unfold maxRow; omega), appL_nil 24 _ (by unfold maxRow; omega)]
  rfl
theorem clone_out (p : DPager) (h : PagerIn p 1048576) : impl_Pager_clone p = some (p.1.1, p.1.2.1, p.1.2.2.1, p.1.2.2.2, p.2.1.1, p.2.1.2.1, p.2.1.2.2.1, p.2.1.2.2.2, p.2.2.1, p.2.2.2.1, p.2.2.2.2.1, p.2.2.2.2.2) := by
  obtain ⟨h1, h2, h3, h4⟩ := h
  unfold impl_Pager_clone impl_Disk_clone slices_Clone_impl_Page_impl_Page_ slices_Clone_impl_Put_impl_Put_ slices_Clone_string_string_
  rw [appL_nil 16 _ (by unfold maxRow; omega), appL_nil 24 _ (by unfold maxRow; omega), appL_nil 24 _ (by unfold maxRow; omega), appL_nil 24 _ (by unfold maxRow; omega)]
  rfl

theorem spec_Sync_out (p : DPager) (hin : PagerIn p 1048576) : spec_Sync p = some (outSy p) := by
  unfold spec_Sync outSy
  simp only [l12Ok_out p hin, Option.bind_some, deq]
  by_cases h : PagerV p
  case neg => rw [if_pos (by simpa using h), if_neg h]; rfl
  rw [if_neg (by simpa using h), if_pos h, l12Own_out p hin, Option.bind_some]
  obtain ⟨a1, a2, a3, a4, a5, a6, a7⟩ := h.1
  have ho := l12Own_out p hin
  obtain ⟨⟨b, pe, fu, off⟩, ⟨s1, s2, s3, s4⟩, sq, at_, lg, di⟩ := p
  simp only at a1 a2 a3 a4 a5 a6 a7 ho ⊢
  unfold spec_l09Barrier_o19 spec_l09Power_o19
  have hloop : ∀ fu : Int, spec_l09Barrier_o19_l1 pe fu off s1 s2 s3 s4 sq at_ lg di (b, 0) = some (barL b pe pe.length, pe, fu, off, s1, s2, s3, s4, sq, at_, lg, di) := fun fu => by
    unfold spec_l09Barrier_o19_l1
    refine bar_loop b pe (fun x hx => ⟨(a7 x hx).1, (a7 x hx).2.1⟩) hin.2.1 (fun m => (m, pe, fu, off, s1, s2, s3, s4, sq, at_, lg, di)) _ (fun m i x y hx hm hy hi h0 h1 => ?_) (fun m => ?_)
    · simp only [spec_l09Barrier_o19_l1_b]
      rw [if_pos (by omega), if_pos (by omega), Int.toNat_natCast, hx, Option.bind_some, if_pos (by omega), Option.bind_some, if_pos ⟨h0, h1⟩, hy, Option.bind_some, w1 (by omega)]
    · simp only [spec_l09Barrier_o19_l1_b]; rw [if_neg (by omega)]
  cases off with
  | true => simp [spec_l12Done_o7c, ho, outPg, offP]
  | false =>
    by_cases c2 : fu = 0
    · subst c2; simp [spec_l12Done_o7c, ho, outPg, offP]
    by_cases c3 : fu > 0
    · simp [c2, c3, wrap_in (show -9223372036854775808 ≤ fu - 1 by omega) (by omega), hloop, spec_l12Done_o7c, outPg, syncP]
    · simp [c2, c3, hloop, spec_l12Done_o7c, outPg, syncP]

theorem impl_Sync_out (p : DPager) (hin : PagerIn p 1048576) : impl_Sync p = some (outSy p) := by
  unfold impl_Sync outSy
  simp only [ValidPager_out p hin, Option.bind_some, deq]
  by_cases h : PagerV p
  case neg => rw [if_pos (by simpa using h), if_neg h]; rfl
  rw [if_neg (by simpa using h), if_pos h]
  unfold impl_Pager_onDisk_Sync_c1 impl_Sync_c1_o19
  have ho := clone_out p hin
  obtain ⟨a1, a2, a3, a4, a5, a6, a7⟩ := h.1
  obtain ⟨⟨b, pe, fu, off⟩, ⟨s1, s2, s3, s4⟩, sq, at_, lg, di⟩ := p
  simp only at a1 a2 a3 a4 a5 a6 a7 ho ⊢
  rw [ho]
  simp only [Option.bind_some]
  unfold impl_Disk_barrier_o19 impl_Disk_power_o19
  have hloop : ∀ fu : Int, impl_Disk_barrier_o19_l1 pe fu off s1 s2 s3 s4 sq at_ lg di (pe.length : Int) (b, 0) = some (barL b pe pe.length, pe, fu, off, s1, s2, s3, s4, sq, at_, lg, di) := fun fu => by
    unfold impl_Disk_barrier_o19_l1
    refine bar_loop b pe (fun x hx => ⟨(a7 x hx).1, (a7 x hx).2.1⟩) hin.2.1 (fun m => (m, pe, fu, off, s1, s2, s3, s4, sq, at_, lg, di)) _ (fun m i x y hx hm hy hi h0 h1 => ?_) (fun m => ?_)
    · simp only [impl_Disk_barrier_o19_l1_b]
      rw [if_pos (by omega), if_pos (by omega), Int.toNat_natCast, hx, Option.bind_some, if_pos ⟨h0, h1⟩, hy, Option.bind_some, w1 (by omega)]
    · simp only [impl_Disk_barrier_o19_l1_b]; rw [if_neg (by omega)]
  cases off with
  | true => simp [outPg, offP, ho]
  | false =>
    by_cases c2 : fu = 0
    · subst c2; simp [ho, outPg, offP]
    by_cases c3 : fu > 0
    · simp [c2, c3, wrap_in (show -9223372036854775808 ≤ fu - 1 by omega) (by omega), hloop, outPg, syncP]
    · simp [c2, c3, hloop, outPg, syncP]

theorem outSy_in (p : DPager) (hin : PagerIn p 1048576) : PagerIn (outSy p).pg 1048576 := by
  unfold outSy
  split
  · split
    · exact hin
    · exact ⟨by simp [outPg, syncP, POut.pg, barL_len]; exact hin.1, by simp [outPg, syncP, POut.pg], hin.2.2.1, hin.2.2.2⟩
  · exact noPg_in

theorem FnExactSync_true (p : DPager) (h : Gd.ok p) : laws_FnExactSync p = some true := by
  unfold laws_FnExactSync
  obtain ⟨r, hr, hin⟩ := szPager_out p (pagerOk_of h)
  rw [hr, Option.bind_some]
  by_cases hneg : r < 0
  · rw [if_pos hneg]
  rw [if_neg hneg]
  have hin := hin (by omega)
  have hS := spec_Sync_out p hin
  have hI := impl_Sync_out p hin
  have hoin := outSy_in p hin
  generalize outSy p = o at hS hI hoin
  unfold POut.pg at hoin
  obtain ⟨w, hw, w1, w2, w3, w4, w5, w6⟩ := markPager_out p hin
  obtain ⟨u, hu, u1, u2, u3, u4, u5, u6⟩ := markPager_out _ hoin
  simp only at hu u1 u2 u3 u4 u5 u6
  simp only [toPager_out p hin, Option.bind_some, flatP, pg_eta, hS, hI, eqPager_same _ hoin, eqPager_same p hin, not_true_eq_false, if_false, hw, w1, w2, w3, w4, w5, and_self, if_true, hu, u1, u2, u3, u4, u5, u6]
end Go.Proofs.TM
