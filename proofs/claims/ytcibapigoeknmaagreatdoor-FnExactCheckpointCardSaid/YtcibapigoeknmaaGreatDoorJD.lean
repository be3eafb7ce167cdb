import Derived.Test.YtcibapigoeknmaaGreatDoorJC
namespace Go.Proofs.TM
open Go Go.Proofs
set_option linter.unusedVariables false
set_option linter.unusedSimpArgs false
set_option maxHeartbeats 1000000
theorem andD_z {r : DDisk × Int} {f : DDisk → DDisk × Int} (h : r.2 = 0) : andD r f = f r.1 := if_pos h
theorem andD_n {r : DDisk × Int} {f : DDisk → DDisk × Int} (h : ¬ r.2 = 0) : andD r f = r := if_neg h
theorem andD_assoc (r : DDisk × Int) (f g : DDisk → DDisk × Int) : andD (andD r f) g = andD r fun d => andD (f d) g := by
 by_cases h : r.2 = 0
 ·rw [andD_z h, andD_z h]
 ·rw [andD_n h, andD_n h, andD_n h]
def nxS (q : PRest) : DSuper := (q.1.1, q.1.2.1, q.2.1, q.1.2.2.2 + 1)
def ckR (d : DDisk) (q : PRest) : DDisk × Int := ckD d q.2.2.2.1 (nxS q) q.1.2.1.toNat
def outK (d : DDisk) (q : PRest) : DPager × Int := if q.1.2.2.2 = 1000000000000 then (noPg, 5) else if (ckR d q).2 = 0 then (((ckR d q).1, nxS q, q.2.1, 0, [], q.2.2.2.2), 0) else (((ckR d q).1, q), (ckR d q).2)
theorem pv_inv {d : DDisk} {q : PRest} (hp : PagerV (d, q)) (ht : ¬ q.1.2.2.2 = 1000000000000) : DInv d.1.length 600 d ∧ LogOk d.1.length q.2.2.2.1 ∧ SuperV (nxS q) ∧ (0 ≤ q.1.2.1 ∧ q.1.2.1 ≤ 64 ∧ q.1.2.1 + 2 ≤ (d.1.length : Int)) ∧ q.1.2.2.2 < 1000000000000 ∧ 16 ≤ d.1.length := by
 obtain ⟨hd, _, hs, hl, hq, _, hP1, _, hW1, _, _⟩ := hp
 have hs' := hs
 obtain ⟨v1, v2, v3, v4, v5, v6, v7, v8, v9⟩ := hs'
 simp only at hl hq hP1 hW1 v1 v2 v3 v4 v5 v6 v7 v8 v9
 refine ⟨⟨hd, rfl, by have h600 : (d.2.1.length : Int) ≤ 600 := hd.2.2.1; omega⟩, ⟨hP1.1, fun x hx => ?_⟩, ⟨v1, v2, v3, v4, v5, by simp only [nxS]; omega, by simp only [nxS]; omega, by simp only [nxS]; omega, by simp only [nxS]; omega⟩, by omega, by omega, by have h16 : (16 : Int) ≤ d.1.length := hd.1; omega⟩
 obtain ⟨i, hi, he⟩ := List.mem_iff_getElem.1 hx
 have hp := hP1.2 i hi x (by rw [List.getElem?_eq_getElem hi, he])
 have hw := hW1 x hx
 exact ⟨hp.1, by have hw2 : x.1 ≤ q.1.1 - 1 := hw.2; omega, hp.2.2.1⟩
theorem ck_code {d : DDisk} {q : PRest} (hp : PagerV (d, q)) (ht : ¬ q.1.2.2.2 = 1000000000000) : ((ckR d q).2 = 0 ∨ (ckR d q).2 = 13) ∧ DInv d.1.length 600 (ckR d q).1 := by
 obtain ⟨hi, hl, hs, hN, hlt, h16⟩ := pv_inv hp ht
 have hb : ∀ {m : Nat} {e : DDisk}, m ≤ 600 → DInv d.1.length m e → ((barD e).2 = 0 ∨ (barD e).2 = 13) ∧ DInv d.1.length 600 (barD e).1 := fun {m e} hm he => by
  rcases barD_inv he with ⟨a, b⟩ | ⟨a, b⟩
  ·exact ⟨.inl a, b.1, b.2.1, by have := b.2.2; omega⟩
  ·exact ⟨.inr a, b.1, b.2.1, by have := b.2.2; omega⟩
 have step : ∀ (r : DDisk × Int) (f : DDisk → DDisk × Int), ((r.2 = 0 ∨ r.2 = 13) ∧ DInv d.1.length 600 r.1) → (r.2 = 0 → ((f r.1).2 = 0 ∨ (f r.1).2 = 13) ∧ DInv d.1.length 600 (f r.1).1) → ((andD r f).2 = 0 ∨ (andD r f).2 = 13) ∧ DInv d.1.length 600 (andD r f).1 := fun r f h1 h2 => by
  by_cases h : r.2 = 0
  ·rw [andD_z h]; exact h2 h
  ·rw [andD_n h]; exact h1
 have b0 : ∀ {m : Nat} {e : DDisk}, DInv d.1.length m e → (barD e).2 = 0 → DInv d.1.length 0 (barD e).1 := fun {m e} he h => by
  rcases barD_inv he with ⟨a, b⟩ | ⟨a, b⟩
  ·exact b
  ·omega
 have ht2 : 0 ≤ Int.tmod (nxS q).2.2.2 2 ∧ Int.tmod (nxS q).2.2.2 2 ≤ 1 := by rw [Int.tmod_eq_emod_of_nonneg hs.2.2.2.2.2.2.2.1]; omega
 have up : ∀ {m : Nat} {e : DDisk}, m ≤ 600 → DInv d.1.length m e → DInv d.1.length 600 e := fun {m e} hm he => ⟨he.1, he.2.1, by have := he.2.2; omega⟩
 unfold ckR ckD
 refine step _ _ (hb (Nat.le_refl _) hi) fun z1 => ?_
 have w := wrL_inv q.2.2.2.1 0 (barD d).1 (b0 hi z1) hl.2 (by have := hl.1; omega)
 refine step _ _ ⟨w.1, up (by have := hl.1; omega) w.2⟩ fun z2 => ?_
 refine step _ _ (hb (by have := hl.1; omega) w.2) fun z3 => ?_
 have w2 := wrD_inv (k := Int.tmod (nxS q).2.2.2 2) (b := encS (nxS q)) (b0 w.2 z3) ht2.1 (by omega) (encS_length _) (by omega)
 refine step _ _ ⟨w2.1, up (by omega) w2.2⟩ fun z4 => ?_
 refine step _ _ (hb (by omega) w2.2) fun z5 => ?_
 have w3 := clrD_inv q.1.2.1.toNat 0 2 _ (b0 w2.2 z5) (by omega) (by omega) (by omega)
 refine step _ _ ⟨w3.1, up (by omega) w3.2⟩ fun z6 => ?_
 exact hb (by omega) w3.2
end Go.Proofs.TM
namespace Go.Proofs.TM
open Go Go.Proofs
set_option linter.unusedVariables false
set_option linter.unusedSimpArgs false
set_option maxHeartbeats 1000000
def endK (q : PRest) (r : DDisk × Int) : DPager × Int := if r.2 = 0 then ((r.1, nxS q, q.2.1, 0, [], q.2.2.2.2), 0) else ((r.1, q), r.2)
theorem sCheck {d : DDisk} {q : PRest} (hp : PagerV (d, q)) (ht : ¬ q.1.2.2.2 = 1000000000000) : spec_l12Check_o19 (d, q) = some (endK q (ckR d q)) := by
 obtain ⟨hi, hl, hs, hN, hlt, h16⟩ := pv_inv hp ht
 have hq0 : 0 ≤ q.1.2.2.2 := hp.2.2.1.2.2.2.2.2.2.2.1
 have hck : ckR d q = andD (andD (barD d) fun d => andD (wrL d q.2.2.2.1) barD) fun d => andD (andD (wrD d (Int.tmod (nxS q).2.2.2 2) (encS (nxS q))) barD) fun d => andD (clrD d q.1.2.1.toNat 2) barD := by
  unfold ckR ckD; simp only [andD_assoc]
 unfold spec_l12Check_o19
 rw [if_neg (by simp only; omega), sPlace d q hi hl, Option.bind_some]
 simp only [flat, if_true, fixLen_self]
 have iA : (andD (barD d) fun d => andD (wrL d q.2.2.2.1) barD).2 = 0 → DInv d.1.length 0 (andD (barD d) fun d => andD (wrL d q.2.2.2.1) barD).1 := fun h => by
  rcases barD_inv hi with ⟨a, b⟩ | ⟨a, b⟩
  ·rw [andD_z a] at h ⊢
   have w := wrL_inv q.2.2.2.1 0 (barD d).1 b hl.2 (by have := hl.1; omega)
   by_cases hz : (wrL (barD d).1 q.2.2.2.1).2 = 0
   ·rw [andD_z hz] at h ⊢
    rcases barD_inv w.2 with ⟨a2, b2⟩ | ⟨a2, b2⟩
    ·exact b2
    ·omega
   ·rw [andD_n hz] at h; exact absurd h hz
  ·rw [andD_n (by omega)] at h; omega
 rw [hck]
 generalize (andD (barD d) fun d => andD (wrL d q.2.2.2.1) barD) = A at iA
 by_cases hA : A.2 = 0
 case neg =>
  rw [if_pos hA, andD_n hA]
  unfold endK; rw [if_neg hA]
 rw [if_neg (by simpa using hA), andD_z hA, wrap_in (n := q.1.2.2.2 + 1) (by omega) (by omega)]
 have iA := iA hA
 rw [show spec_l12Super_o35 ((A.1.1, A.1.2.1, A.1.2.2.1, A.1.2.2.2), (q.1.1, q.1.2.1, q.1.2.2.1, q.1.2.2.2), q.2.1, q.2.2.1, q.2.2.2.1, q.2.2.2.2) q.1.1 q.1.2.1 q.2.1 (q.1.2.2.2 + 1) = _ from sSuper A.1 q (nxS q) iA (by omega) h16 hs, Option.bind_some]
 simp only
 have ht2 : 0 ≤ Int.tmod (nxS q).2.2.2 2 ∧ Int.tmod (nxS q).2.2.2 2 ≤ 1 := by rw [Int.tmod_eq_emod_of_nonneg hs.2.2.2.2.2.2.2.1]; omega
 have w2 := wrD_inv (k := Int.tmod (nxS q).2.2.2 2) (b := encS (nxS q)) iA ht2.1 (by omega) (encS_length _) (by omega)
 have iB : (andD (wrD A.1 (Int.tmod (nxS q).2.2.2 2) (encS (nxS q))) barD).2 = 0 → DInv d.1.length 0 (andD (wrD A.1 (Int.tmod (nxS q).2.2.2 2) (encS (nxS q))) barD).1 := fun h => by
  by_cases hz : (wrD A.1 (Int.tmod (nxS q).2.2.2 2) (encS (nxS q))).2 = 0
  ·rw [andD_z hz] at h ⊢
   rcases barD_inv w2.2 with ⟨a2, b2⟩ | ⟨a2, b2⟩
   ·exact b2
   ·omega
  ·rw [andD_n hz] at h; exact absurd h hz
 generalize (andD (wrD A.1 (Int.tmod (nxS q).2.2.2 2) (encS (nxS q))) barD) = B at iB
 by_cases hB : B.2 = 0
 case neg =>
  rw [if_pos hB, andD_n hB]
  unfold endK; rw [if_neg hB]
 rw [if_neg (by simpa using hB), andD_z hB]
 rw [sClear B.1 q q.1.2.1.toNat q.1 (by omega) (iB hB) (by omega) (by omega), Option.bind_some]
 generalize andD (clrD B.1 q.1.2.1.toNat 2) barD = C
 by_cases hC : C.2 = 0
 ·rw [if_neg (by simpa using hC)]
  unfold endK; rw [if_pos hC]; rfl
 ·rw [if_pos hC]
  unfold endK; rw [if_neg hC]
theorem iCheck {d : DDisk} {q : PRest} (hp : PagerV (d, q)) (ht : ¬ q.1.2.2.2 = 1000000000000) : impl_Pager_checkpoint_o19 (d, q) = some (endK q (ckR d q)) := by
 obtain ⟨hi, hl, hs, hN, hlt, h16⟩ := pv_inv hp ht
 have hq0 : 0 ≤ q.1.2.2.2 := hp.2.2.1.2.2.2.2.2.2.2.1
 have b0 : ∀ {m : Nat} {e : DDisk}, DInv d.1.length m e → (barD e).2 = 0 → DInv d.1.length 0 (barD e).1 := fun {m e} he h => by
  rcases barD_inv he with ⟨a, b⟩ | ⟨a, b⟩
  ·exact b
  ·omega
 have ht2 : 0 ≤ Int.tmod (nxS q).2.2.2 2 ∧ Int.tmod (nxS q).2.2.2 2 ≤ 1 := by rw [Int.tmod_eq_emod_of_nonneg hs.2.2.2.2.2.2.2.1]; omega
 have hT : impl_inTurn_of8 (d, q) (nxS q) = some (((ckR d q).1, q), nxS q, (ckR d q).2) := by
  unfold impl_inTurn_of8 ckR ckD
  rw [iBar d q hi.1, Option.bind_some]
  by_cases z1 : (barD d).2 = 0
  case neg => simp only [z1, not_false_eq_true, if_true, andD_n z1]
  have i1 := b0 hi z1
  simp only [z1, not_true_eq_false, if_false, andD_z z1]
  rw [iPlace _ q i1 hl, Option.bind_some]
  have w := wrL_inv q.2.2.2.1 0 (barD d).1 i1 hl.2 (by have := hl.1; omega)
  generalize wrL (barD d).1 q.2.2.2.1 = W at w
  by_cases z2 : W.2 = 0
  case neg => simp only [z2, not_false_eq_true, if_true, andD_n z2]
  simp only [z2, not_true_eq_false, if_false, andD_z z2]
  rw [iBar _ q w.2.1, Option.bind_some]
  by_cases z3 : (barD W.1).2 = 0
  case neg => simp only [z3, not_false_eq_true, if_true, andD_n z3]
  have i3 := b0 w.2 z3
  simp only [z3, not_true_eq_false, if_false, andD_z z3]
  rw [iSuper _ q (nxS q) i3 (by omega), Option.bind_some]
  have w2 := wrD_inv (k := Int.tmod (nxS q).2.2.2 2) (b := encS (nxS q)) i3 ht2.1 (by omega) (encS_length _) (by omega)
  generalize wrD (barD W.1).1 (Int.tmod (nxS q).2.2.2 2) (encS (nxS q)) = V at w2
  by_cases z4 : V.2 = 0
  case neg => simp only [z4, not_false_eq_true, if_true, andD_n z4]
  simp only [z4, not_true_eq_false, if_false, andD_z z4]
  rw [iBar _ q w2.2.1, Option.bind_some]
  by_cases z5 : (barD V.1).2 = 0
  case neg => simp only [z5, not_false_eq_true, if_true, andD_n z5]
  have i5 := b0 w2.2 z5
  simp only [z5, not_true_eq_false, if_false, andD_z z5]
  rw [iClear _ q q.1.2.1.toNat (by omega) i5 (by omega) (by omega), Option.bind_some]
  have w3 := clrD_inv q.1.2.1.toNat 0 2 _ i5 (by omega) (by omega) (by omega)
  generalize clrD (barD V.1).1 q.1.2.1.toNat 2 = U at w3
  by_cases z6 : U.2 = 0
  case neg => simp only [z6, not_false_eq_true, if_true, andD_n z6]
  simp only [z6, not_true_eq_false, if_false, andD_z z6]
  rw [iBar _ q w3.2.1, Option.bind_some]
  by_cases z7 : (barD U.1).2 = 0
  ·simp only [z7, not_true_eq_false, if_false]
  ·simp only [z7, not_false_eq_true, if_true]
 unfold impl_Pager_checkpoint_o19
 simp only
 rw [if_neg ht, wrap_in (n := q.1.2.2.2 + 1) (by omega) (by omega), show impl_inTurn_of8 (d, q) (q.1.1, q.1.2.1, q.2.1, q.1.2.2.2 + 1) = _ from hT, Option.bind_some]
 simp only
 unfold endK
 by_cases hz : (ckR d q).2 = 0
 ·rw [if_neg (by simpa using hz), if_pos hz]
 ·rw [if_pos hz, if_neg hz]
end Go.Proofs.TM
namespace Go.Proofs.TM
open Go Go.Proofs
set_option linter.unusedVariables false
set_option linter.unusedSimpArgs false
set_option maxHeartbeats 1000000
open Classical in
noncomputable def outCk (p : DPager) : DPager × Int := if PagerV p then (if p.2.1.2.2.2 = 1000000000000 then (noPg, 5) else endK p.2 (ckR p.1 p.2)) else (noPg, 1)
open Classical in
theorem spec_Ck (p : DPager) (hin : PagerIn p 1048576) : spec_Checkpoint p = some (outCk p) := by
 unfold spec_Checkpoint outCk
 simp only [l12Ok_out p hin, Option.bind_some, deq]
 by_cases hp : PagerV p
 case neg => rw [if_pos hp, if_neg hp]; rfl
 rw [if_neg (Classical.not_not.2 hp), if_pos hp, l12Own_out p hin, Option.bind_some]
 obtain ⟨d, q⟩ := p
 have hq : q.1.2.2.2 ≤ 1000000000000 := hp.2.2.1.2.2.2.2.2.2.2.2
 simp only
 by_cases ht : q.1.2.2.2 = 1000000000000
 ·rw [if_pos ht]
  unfold spec_l12Check_o19 spec_l12Done_o7c
  rw [if_pos (by simp only; omega), Option.bind_some, if_neg (by simp), if_neg (by simp), Option.bind_some]
  rfl
 rw [if_neg ht, sCheck hp ht, Option.bind_some]
 obtain ⟨hc, _⟩ := ck_code hp ht
 unfold endK spec_l12Done_o7c
 by_cases hz : (ckR d q).2 = 0
 ·rw [if_pos hz]
  simp only [if_true, Option.bind_some]
 ·have h13 : (ckR d q).2 = 13 := by omega
  rw [if_neg hz]
  simp only [h13]
  rw [if_neg (by omega)]
  simp only [if_true, l12Own_out (d, q) hin, Option.bind_some]
open Classical in
theorem impl_Ck (p : DPager) (hin : PagerIn p 1048576) : impl_Checkpoint p = some (outCk p) := by
 unfold impl_Checkpoint outCk
 simp only [ValidPager_out p hin, Option.bind_some, deq]
 by_cases hp : PagerV p
 case neg => rw [if_pos hp, if_neg hp]; rfl
 rw [if_neg (Classical.not_not.2 hp), if_pos hp]
 unfold impl_Pager_onDisk_Pager_checkpoint
 rw [clone_out p hin, Option.bind_some]
 obtain ⟨d, q⟩ := p
 simp only
 by_cases ht : q.1.2.2.2 = 1000000000000
 ·rw [if_pos ht]
  unfold impl_Pager_checkpoint_o19
  rw [if_pos ht, Option.bind_some, if_neg (by simp), if_neg (by simp), Option.bind_some]
  rfl
 rw [if_neg ht, iCheck hp ht, Option.bind_some]
 obtain ⟨hc, _⟩ := ck_code hp ht
 unfold endK
 by_cases hz : (ckR d q).2 = 0
 ·rw [if_pos hz]
  simp only [if_true, Option.bind_some]
 ·have h13 : (ckR d q).2 = 13 := by omega
  rw [if_neg hz]
  simp only [h13]
  rw [if_neg (by omega)]
  simp only [if_true, Option.bind_some]
open Classical in
theorem outCk_in (p : DPager) (hin : PagerIn p 1048576) : PagerIn (outCk p).1 1048576 := by
 unfold outCk
 by_cases hp : PagerV p
 case neg => rw [if_neg hp]; exact noPg_in
 rw [if_pos hp]
 by_cases ht : p.2.1.2.2.2 = 1000000000000
 ·rw [if_pos ht]; exact noPg_in
 rw [if_neg ht]
 obtain ⟨d, q⟩ := p
 obtain ⟨_, hi⟩ := ck_code hp ht
 have h1 := hi.2.1
 have h2 := hi.2.2
 have h3 : d.1.length ≤ 1048576 := hin.1
 unfold endK
 split
 ·exact ⟨by simp only; omega, by simp only; omega, by simp, hin.2.2.2⟩
 ·exact ⟨by simp only; omega, by simp only; omega, hin.2.2.1, hin.2.2.2⟩
theorem FnExactCheckpoint_true (p : DPager) (h : Gd.ok p) : laws_FnExactCheckpoint p = some true := by
 unfold laws_FnExactCheckpoint
 obtain ⟨r, hr, hle, hin⟩ := szPager_le p (pagerOk_of h)
 rw [hr, Option.bind_some]
 by_cases hneg : r < 0
 ·rw [if_pos hneg]
 rw [if_neg hneg]
 have hin := hin (by omega)
 have hS := spec_Ck p hin
 have hI := impl_Ck p hin
 have hoin := outCk_in p hin
 generalize outCk p = o at hS hI hoin
 obtain ⟨w, hw, w1, w2, w3, w4, w5⟩ := markPager_mk p hin
 obtain ⟨u, hu, u1, u2, u3, u4, u5, u6, ule⟩ := markPager_le o.1 hoin
 have hw5 : ¬ w.2.2.2.2 < 0 := by omega
 simp only [toPager_out p hin, Option.bind_some, hS, hI, eqPager_same o.1 hoin, eqPager_same p hin, not_true_eq_false, if_false, hw, w1, w2, w3, w4, hw5, and_self, if_true, hu, u1, u2, u3, u4, u5, u6]
end Go.Proofs.TM
