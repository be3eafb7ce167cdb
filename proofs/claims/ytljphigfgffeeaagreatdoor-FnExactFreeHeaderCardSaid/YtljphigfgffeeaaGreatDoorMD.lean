import Derived.Test.YtljphigfgffeeaaGreatDoorMB
import Derived.Test.YtljphigfgffeeaaGreatDoorMC
namespace Go.Proofs.TM
open Go Go.Proofs
set_option linter.unusedVariables false
set_option linter.unusedSimpArgs false
set_option maxHeartbeats 1000000
structure LikeP (p q : DPager) : Prop where
 v : PagerV q
 i : PagerIn q 1048576
 d : q.1 = p.1
 s : q.2.1 = p.2.1
theorem LikeP.refl {p : DPager} (hp : PagerV p) (hin : PagerIn p 1048576) : LikeP p p := ⟨hp, hin, rfl, rfl⟩
theorem LikeP.area {p q : DPager} (h : LikeP p q) : areaK q = areaK p := by unfold areaK; rw [h.s]
theorem LikeP.set {p q : DPager} (h : LikeP p q) (hp : PagerV p) {k : Int} {d : Str} (h0 : areaK p ≤ k) (h1 : k < (p.1.1.length : Int)) (hd : d.length = 64) (hs : SetV q k d) : LikeP p (setP q k d) :=
 have hl : p.2.1.1 = (p.1.1.length : Int) := hp.2.2.2.1
 ⟨setP_valid q k d h.v (by rw [h.s]; exact h0) (by rw [h.s]; omega) hd hs, setP_in q k d h.v h.i, h.d, h.s⟩
theorem release1_two (p q : DPager) (hp : PagerV p) (h : LikeP p q) (k : Int) : ∃ o, spec_l13Release_oe8 q k 1 = some o ∧ impl_Pager_release_oe8 q k 1 = some o ∧ LikeP p o.1 := by
 have ha := area_in h.v
 have ha' := area_in hp
 have hl := areaP_len h.v
 have hlen : (q.1.1.length : Int) = (p.1.1.length : Int) := by rw [h.d]
 unfold spec_l13Release_oe8 impl_Pager_release_oe8
 rw [l13Data_out q h.v k 1 (by omega) (by omega), isData_out q h.v k 1 (by omega) (by omega)]
 simp only [Option.bind_some]
 by_cases hd : areaK q < k ∧ k < (q.1.1.length : Int)
 case neg =>
  rw [if_pos (by simp; omega), if_pos (by simp; omega)]
  exact ⟨_, rfl, rfl, h⟩
 rw [if_neg (by simp; omega), if_neg (by simp; omega), l13Area_out q h.v h.i, Option.bind_some]
 unfold spec_l13Release_oe8_l1 impl_Pager_release_oe8_l1
 have hw : IntKind.i64.wrap (k + 1) = k + 1 := wrap_in (by omega) (by omega)
 have f1 : spec_l13Release_oe8_l1_b q k 1 (areaP q) k = if bitP (areaP q) k = true then some (.inl (k + 1)) else some (.inr (.inr (q, 6))) := by
  unfold spec_l13Release_oe8_l1_b
  rw [hw, if_pos (by omega), l13Bit_out _ k hl (by omega) (by omega), Option.bind_some]
  by_cases hb : bitP (areaP q) k = true
  ·rw [if_neg (fun h => h hb), if_pos hb]
  ·rw [if_pos hb, if_neg hb]
 have f2 : impl_Pager_release_oe8_l1_b q k 1 k = if bitP (areaP q) k = true then some (.inl (k + 1)) else some (.inr (.inr (q, 6))) := by
  unfold impl_Pager_release_oe8_l1_b
  rw [hw, if_pos (by omega), allocated_out q h.v h.i k hd.1 hd.2, Option.bind_some]
  by_cases hb : bitP (areaP q) k = true
  ·rw [if_neg (fun h => h hb), if_pos hb]
  ·rw [if_pos hb, if_neg hb]
 have g1 : spec_l13Release_oe8_l1_b q k 1 (areaP q) (k + 1) = some (.inr (.inl (q, k, 1, areaP q))) := by
  unfold spec_l13Release_oe8_l1_b
  rw [hw, if_neg (by omega)]
 have g2 : impl_Pager_release_oe8_l1_b q k 1 (k + 1) = some (.inr (.inl (q, k, 1))) := by
  unfold impl_Pager_release_oe8_l1_b
  rw [hw, if_neg (by omega)]
 by_cases hb : bitP (areaP q) k = true
 case neg =>
  rw [if_neg hb] at f1 f2
  rw [loopO_inr (f := fun s => spec_l13Release_oe8_l1_b q k 1 (areaP q) s) f1, loopO_inr (f := fun s => impl_Pager_release_oe8_l1_b q k 1 s) f2]
  exact ⟨_, rfl, rfl, h⟩
 rw [if_pos hb] at f1 f2
 rw [loopO_inl (f := fun s => spec_l13Release_oe8_l1_b q k 1 (areaP q) s) f1, loopO_inl (f := fun s => impl_Pager_release_oe8_l1_b q k 1 s) f2, loopO_inr (f := fun s => spec_l13Release_oe8_l1_b q k 1 (areaP q) s) g1, loopO_inr (f := fun s => impl_Pager_release_oe8_l1_b q k 1 s) g2]
 simp only [Option.bind_some, Sum.elim_inl]
 rw [l13Mark_out (areaP q) k 1 false hl (by omega) (by omega) (by omega), Option.bind_some, l13Put_out q _ h.v h.i, mark_out q k 1 false h.v h.i (by omega) (by omega) (by omega)]
 simp only [Option.bind_some]
 by_cases hs : SetV q (areaK q) (markP (areaP q) k 1 false)
 ·simp only [if_pos hs]
  refine ⟨_, rfl, rfl, ?_⟩
  exact h.set hp (by rw [h.area]; omega) (by rw [h.area]; omega) (by rw [markP_len, hl]) hs
 ·simp only [if_neg hs]
  exact ⟨_, rfl, rfl, h⟩
theorem releaseAll_two (p : DPager) (hp : PagerV p) (hin : PagerIn p 1048576) (bs : List Int) (hb : bs.length ≤ 1000) : ∃ r q, spec_l14Free_of2_l1 bs (p, 0) = some r ∧ impl_Pager_releaseAll_occ_l1 bs ((bs.length : Nat) : Int) (p, 0) = some q ∧
  ((∃ o, r = .inl o ∧ q = .inl (o, bs) ∧ LikeP p o) ∨ (∃ o, r = .inr o ∧ q = .inr (o.1, bs, o.2) ∧ o.2 ≠ 0 ∧ LikeP p o.1)) := by
 unfold spec_l14Free_of2_l1 impl_Pager_releaseAll_occ_l1
 refine loop_rel (f := fun s => spec_l14Free_of2_l1_b bs s.1 s.2) (g := fun s => impl_Pager_releaseAll_occ_l1_b bs ((bs.length : Nat) : Int) s.1 s.2) (fun r q => (∃ o, r = .inl o ∧ q = .inl (o, bs) ∧ LikeP p o) ∨ (∃ o, r = .inr o ∧ q = .inr (o.1, bs, o.2) ∧ o.2 ≠ 0 ∧ LikeP p o.1)) (fun s => bs.length - s.2.toNat)
  (fun s t => s = t ∧ ∃ i : Nat, s.2 = (i : Int) ∧ i ≤ bs.length ∧ LikeP p s.1) (fun s t hI => ?_) (bs.length - 0) _ _ (by simp) ⟨rfl, 0, rfl, by omega, .refl hp hin⟩
 obtain ⟨rfl, i, hi, hle, hlk⟩ := hI
 obtain ⟨q, j⟩ := s
 simp only at hi hlk
 subst hi
 simp only [spec_l14Free_of2_l1_b, impl_Pager_releaseAll_occ_l1_b]
 by_cases hn : i < bs.length
 ·obtain ⟨x, hx⟩ := get_at hn
  obtain ⟨o, h1, h2, h3⟩ := release1_two p q hp hlk x
  rw [if_pos (by omega), if_pos (by omega), Int.toNat_natCast, hx, Option.bind_some, h1, Option.bind_some]
  by_cases h0 : o.2 = 0
  ·rw [if_neg (fun h => h h0)]
   refine .inr ⟨_, _, rfl, ?_, ⟨rfl, i + 1, by simp only; rw [w1 (by omega)]; omega, by omega, h3⟩, by simp only; rw [w1 (by omega)]; omega⟩
   rw [if_pos (by omega), if_pos (by omega), Option.bind_some, h2, Option.bind_some, if_neg (fun h => h h0)]
  ·rw [if_pos h0]
   refine .inl ⟨_, .inr (o.1, bs, o.2), rfl, loopO_inr ?_, .inr ⟨o, rfl, rfl, h0, h3⟩⟩
   simp only
   rw [if_pos (by omega), if_pos (by omega), Int.toNat_natCast, hx, Option.bind_some, h2, Option.bind_some, if_pos h0]
 ·rw [if_neg (by omega)]
  refine .inl ⟨_, .inl (q, bs), rfl, loopO_inr ?_, .inl ⟨q, rfl, rfl, hlk⟩⟩
  simp only
  rw [if_neg (by omega)]
end Go.Proofs.TM
namespace Go.Proofs.TM
open Go Go.Proofs
set_option linter.unusedVariables false
set_option linter.unusedSimpArgs false
set_option maxHeartbeats 1000000
theorem freeHeader_two (p : DPager) (hp : PagerV p) (hin : PagerIn p 1048576) (k : Int) : ∃ o, spec_l14Free_of2 p k = some o ∧ impl_Pager_freeHeader_of2 p k = some o ∧ LikeP p o.1 := by
 obtain ⟨c, c1, c2, c3, c4, c5, c6⟩ := chain_two p hp hin k
 unfold spec_l14Free_of2 impl_Pager_freeHeader_of2
 rw [c1, c2]
 simp only [Option.bind_some]
 by_cases hc : c.2.2 = true
 case neg => simp only [if_pos hc]; exact ⟨_, rfl, rfl, .refl hp hin⟩
 simp only [hc, not_true_eq_false, if_false]
 obtain ⟨r, q, h1, h2, h3⟩ := releaseAll_two p hp hin c.1 (by omega)
 unfold impl_Pager_releaseAll_occ
 rw [h1, h2]
 simp only [Option.bind_some]
 rcases h3 with ⟨o, rfl, rfl, ho⟩ | ⟨o, rfl, rfl, h0, ho⟩
 ·simp only [Sum.elim_inl, Option.bind_some, if_true]; exact ⟨_, rfl, rfl, ho⟩
 ·simp only [Sum.elim_inr, Option.bind_some, if_true]; exact ⟨_, rfl, rfl, ho⟩
open Classical in
theorem FreeHeader_two (p : DPager) (k : Int) (hin : PagerIn p 1048576) : ∃ o, spec_FreeHeader p k = some o ∧ impl_FreeHeader p k = some o ∧ PagerIn o.1 1048576 := by
 unfold spec_FreeHeader impl_FreeHeader
 simp only [l12Ok_out p hin, ValidPager_out p hin, Option.bind_some, deq]
 by_cases hp : PagerV p
 case neg => rw [if_pos hp, if_pos hp]; exact ⟨_, rfl, rfl, noPg_in⟩
 rw [if_neg (Classical.not_not.2 hp), if_neg (Classical.not_not.2 hp)]
 unfold impl_Pager_changed_FreeHeader_c1 impl_FreeHeader_c1_o4c
 rw [l12Own_out p hin, clone_out p hin, Option.bind_some, Option.bind_some]
 obtain ⟨o, h1, h2, h3⟩ := freeHeader_two p hp hin k
 rw [h1, h2]
 simp only [Option.bind_some]
 by_cases hc : o.2 = 0
 ·simp only [hc, not_true_eq_false, if_false, Option.bind_some]; exact ⟨_, rfl, rfl, h3.i⟩
 ·simp only [if_pos hc, Option.bind_some]; exact ⟨_, rfl, rfl, noPg_in⟩
theorem FnExactFreeHeader_true (p : DPager) (k : Int) (h : Gd.ok p) (_ : Gd.ok k) : laws_FnExactFreeHeader p k = some true := by
 unfold laws_FnExactFreeHeader
 obtain ⟨r, hr, hle, hin⟩ := szPager_le p (pagerOk_of h)
 rw [hr, Option.bind_some]
 by_cases hneg : r < 0
 ·rw [if_pos hneg]
 rw [if_neg hneg]
 have hin := hin (by omega)
 obtain ⟨o, hS, hI, hoin⟩ := FreeHeader_two p k hin
 obtain ⟨w, hw, w1, w2, w3, w4, w5, w6, wle⟩ := markPager_le p hin
 obtain ⟨u, hu, u1, u2, u3, u4, u5, u6⟩ := markPager_out _ hoin
 simp only [toPager_out p hin, Option.bind_some, hS, hI, eqPager_same _ hoin, eqPager_same p hin, not_true_eq_false, if_false, hw, w1, w2, w3, w4, w5, and_self, if_true, hu, u1, u2, u3, u4, u5, u6]
end Go.Proofs.TM
