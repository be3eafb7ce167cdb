import Derived.Test.YtcibapigoeknmaaGreatDoorJB
import Derived.Test.YtcibapigoeknmaaGreatDoorJA
namespace Go.Proofs.TM
open Go Go.Proofs
set_option linter.unusedVariables false
set_option linter.unusedSimpArgs false
set_option maxHeartbeats 1000000
abbrev PRest := DSuper × Int × Int × List (Int × Str) × List (Int × Str)
abbrev DFlat (γ : Type) := List Str × List (Int × Str) × Int × Bool × Int × Int × Int × Int × Int × Int × List (Int × Str) × List (Int × Str) × γ
def flat {γ : Type} (d : DDisk) (q : PRest) (c : γ) : DFlat γ := (d.1, d.2.1, d.2.2.1, d.2.2.2, q.1.1, q.1.2.1, q.1.2.2.1, q.1.2.2.2, q.2.1, q.2.2.1, q.2.2.2.2, q.2.2.2.1, c)
theorem fixLen_self {α : Type} (l : List α) : fixLen l l = l := fixLen_eq rfl
theorem sBar_loop (b : List Str) (pe : List (Int × Str)) (fu : Int) (off : Bool) (q : PRest) (hp : ∀ x ∈ pe, 0 ≤ x.1 ∧ x.1 ≤ (b.length : Int) - 1) (hl : pe.length ≤ 1048576) :
  spec_l09Barrier_o19_l1 (((b, pe, fu, off), q), 0) = some ((barL b pe pe.length, pe, fu, off), q) := by
 unfold spec_l09Barrier_o19_l1
 refine loop_some pe.length (fun i s => s = (((barL b pe i, pe, fu, off), q), (i : Int))) (fun i s hi hs => ?_) pe.length 0 _ (by omega) rfl
 subst hs
 by_cases hn : i < pe.length
 ·obtain ⟨x, hx⟩ := get_at hn
  have hb := hp x (List.mem_of_getElem? hx)
  have hlen := barL_len b pe i
  obtain ⟨y, hy⟩ := get_at (l := barL b pe i) (i := x.1.toNat) (by omega)
  refine .inr ⟨hn, (((barL b pe (i + 1), pe, fu, off), q), ((i + 1 : Nat) : Int)), ?_, rfl⟩
  simp only [spec_l09Barrier_o19_l1_b]
  rw [if_pos (by omega), if_pos (by omega), Int.toNat_natCast, hx, Option.bind_some, if_pos (by omega), Option.bind_some, if_pos (by omega), hy, Option.bind_some, w1 (by omega)]
  simp [barL, List.getD_eq_getElem?_getD, hx]
 ·have : i = pe.length := by omega
  subst this
  refine .inl ?_
  simp only [spec_l09Barrier_o19_l1_b]
  rw [if_neg (by omega)]
theorem iBar_loop (b : List Str) (pe : List (Int × Str)) (fu : Int) (off : Bool) (q : PRest) (hp : ∀ x ∈ pe, 0 ≤ x.1 ∧ x.1 ≤ (b.length : Int) - 1) (hl : pe.length ≤ 1048576) :
  impl_Disk_barrier_o19_l1 pe.length (((b, pe, fu, off), q), 0) = some ((barL b pe pe.length, pe, fu, off), q) := by
 unfold impl_Disk_barrier_o19_l1
 refine loop_some pe.length (fun i s => s = (((barL b pe i, pe, fu, off), q), (i : Int))) (fun i s hi hs => ?_) pe.length 0 _ (by omega) rfl
 subst hs
 by_cases hn : i < pe.length
 ·obtain ⟨x, hx⟩ := get_at hn
  have hb := hp x (List.mem_of_getElem? hx)
  have hlen := barL_len b pe i
  obtain ⟨y, hy⟩ := get_at (l := barL b pe i) (i := x.1.toNat) (by omega)
  refine .inr ⟨hn, (((barL b pe (i + 1), pe, fu, off), q), ((i + 1 : Nat) : Int)), ?_, rfl⟩
  simp only [impl_Disk_barrier_o19_l1_b]
  rw [if_pos (by omega), if_pos (by omega), Int.toNat_natCast, hx, Option.bind_some, if_pos (by omega), hy, Option.bind_some, w1 (by omega)]
  simp [barL, List.getD_eq_getElem?_getD, hx]
 ·have : i = pe.length := by omega
  subst this
  refine .inl ?_
  simp only [impl_Disk_barrier_o19_l1_b]
  rw [if_neg (by omega)]
theorem bar36_loop (b : List Str) (pe : List (Int × Str)) (fu : Int) (off : Bool) (s1 s2 s3 s4 sq at_ : Int) (di lg : List (Int × Str)) (hp : ∀ x ∈ pe, 0 ≤ x.1 ∧ x.1 ≤ (b.length : Int) - 1) (hl : pe.length ≤ 1048576) :
  spec_l09Barrier_o36_l1 pe fu off s1 s2 s3 s4 sq at_ di lg (b, 0) = some (barL b pe pe.length, pe, fu, off, s1, s2, s3, s4, sq, at_, di, lg) := by
 unfold spec_l09Barrier_o36_l1
 refine loop_some pe.length (fun i s => s = (barL b pe i, (i : Int))) (fun i s hi hs => ?_) pe.length 0 _ (by omega) rfl
 subst hs
 by_cases hn : i < pe.length
 ·obtain ⟨x, hx⟩ := get_at hn
  have hb := hp x (List.mem_of_getElem? hx)
  have hlen := barL_len b pe i
  obtain ⟨y, hy⟩ := get_at (l := barL b pe i) (i := x.1.toNat) (by omega)
  refine .inr ⟨hn, (barL b pe (i + 1), ((i + 1 : Nat) : Int)), ?_, rfl⟩
  simp only [spec_l09Barrier_o36_l1_b]
  rw [if_pos (by omega), if_pos (by omega), Int.toNat_natCast, hx, Option.bind_some, if_pos (by omega), Option.bind_some, if_pos (by omega), hy, Option.bind_some, w1 (by omega)]
  simp [barL, List.getD_eq_getElem?_getD, hx]
 ·have : i = pe.length := by omega
  subst this
  refine .inl ?_
  simp only [spec_l09Barrier_o36_l1_b]
  rw [if_neg (by omega)]
theorem sBar (d : DDisk) (q : PRest) (hd : DiskV d) : spec_l09Barrier_o19 (d, q) = some (((barD d).1, q), (barD d).2) := by
 obtain ⟨a1, a2, a3, a4, a5, a6, a7⟩ := hd
 obtain ⟨b, pe, fu, off⟩ := d
 simp only at a1 a2 a3 a4 a5 a6 a7
 have hl := fun (f : Int) => sBar_loop b pe f off q (fun x hx => ⟨(a7 x hx).1, (a7 x hx).2.1⟩) (by omega)
 unfold spec_l09Barrier_o19 spec_l09Power_o19 barD NoPow offD decF
 cases off with
 | true => simp
 | false =>
  by_cases c2 : fu = 0
  ·simp [c2]
  by_cases c3 : fu > 0
  ·simp [c2, c3, wrap_in (show -9223372036854775808 ≤ fu - 1 by omega) (by omega), hl]
  ·simp [c2, c3, hl]
theorem iBar (d : DDisk) (q : PRest) (hd : DiskV d) : impl_Disk_barrier_o19 (d, q) = some (((barD d).1, q), (barD d).2) := by
 obtain ⟨a1, a2, a3, a4, a5, a6, a7⟩ := hd
 obtain ⟨b, pe, fu, off⟩ := d
 simp only at a1 a2 a3 a4 a5 a6 a7
 have hl := fun (f : Int) => iBar_loop b pe f off q (fun x hx => ⟨(a7 x hx).1, (a7 x hx).2.1⟩) (by omega)
 unfold impl_Disk_barrier_o19 impl_Disk_power_o19 barD NoPow offD decF
 cases off with
 | true => simp
 | false =>
  by_cases c2 : fu = 0
  ·simp [c2]
  by_cases c3 : fu > 0
  ·simp [c2, c3, wrap_in (show -9223372036854775808 ≤ fu - 1 by omega) (by omega), hl]
  ·simp [c2, c3, hl]
theorem sBar36 (d : DDisk) (q : PRest) (hd : DiskV d) : spec_l09Barrier_o36 (d, q) = some (flat (barD d).1 q (barD d).2) := by
 obtain ⟨a1, a2, a3, a4, a5, a6, a7⟩ := hd
 obtain ⟨b, pe, fu, off⟩ := d
 simp only at a1 a2 a3 a4 a5 a6 a7
 have hl := fun (f : Int) => bar36_loop b pe f off q.1.1 q.1.2.1 q.1.2.2.1 q.1.2.2.2 q.2.1 q.2.2.1 q.2.2.2.2 q.2.2.2.1 (fun x hx => ⟨(a7 x hx).1, (a7 x hx).2.1⟩) (by omega)
 unfold spec_l09Barrier_o36 spec_l09Power_o36 barD NoPow offD decF flat
 cases off with
 | true => simp [fixLen_self]
 | false =>
  by_cases c2 : fu = 0
  ·simp [c2, fixLen_self]
  by_cases c3 : fu > 0
  ·simp [c2, c3, wrap_in (show -9223372036854775808 ≤ fu - 1 by omega) (by omega), hl, fixLen_self]
  ·simp [c2, c3, hl, fixLen_self]
theorem appPut (l : List (Int × Str)) (x : Int × Str) (h : l.length < 600) : appL 24 l (lit [x]) = some (l ++ [x]) := by unfold appL lit; rw [if_pos (by simp [maxRow]; omega)]
theorem sWr (d : DDisk) (q : PRest) (k : Int) (x : Str) (hd : DiskV d) (hm : d.2.1.length < 600) : spec_l09Write_oc8 (d, q) k x = some (((wrD d k x).1, q), (wrD d k x).2) := by
 obtain ⟨a1, a2, a3, a4, a5, a6, a7⟩ := hd
 obtain ⟨b, pe, fu, off⟩ := d
 simp only at a1 a2 a3 a4 a5 a6 a7 hm
 have ha := appPut pe (k, x) hm
 unfold spec_l09Write_oc8 spec_l09Power_o19 wrD NoPow offD decF
 cases off with
 | true => simp
 | false =>
  by_cases c2 : fu = 0
  ·simp [c2]
  simp only
  rw [if_neg (by simp), if_neg c2, if_neg (by omega)]
  by_cases c3 : fu > 0
  ·simp [c2, c3, wrap_in (show -9223372036854775808 ≤ fu - 1 by omega) (by omega), ha]
  ·simp [c2, c3, ha]
theorem iWr (d : DDisk) (q : PRest) (k : Int) (x : Str) (hd : DiskV d) (hm : d.2.1.length < 600) : impl_Disk_write_oc8 (d, q) k x = some (((wrD d k x).1, q), (wrD d k x).2) := by
 obtain ⟨a1, a2, a3, a4, a5, a6, a7⟩ := hd
 obtain ⟨b, pe, fu, off⟩ := d
 simp only at a1 a2 a3 a4 a5 a6 a7 hm
 have ha := appPut pe (k, x) hm
 have hm2 : ¬ (600 : Int) ≤ pe.length := by omega
 unfold impl_Disk_write_oc8 impl_Disk_power_o19 wrD NoPow offD decF
 cases off with
 | true => simp
 | false =>
  by_cases c2 : fu = 0
  ·simp [c2]
  by_cases c3 : fu > 0
  ·simp [c2, c3, wrap_in (show -9223372036854775808 ≤ fu - 1 by omega) (by omega), ha, hm2]
  ·simp [c2, c3, ha, hm2]
theorem sWr87 (d : DDisk) (q : PRest) (k : Int) (x : Str) (hd : DiskV d) (hm : d.2.1.length < 600) : spec_l09Write_o87 (d, q) k x = some (flat (wrD d k x).1 q (wrD d k x).2) := by
 obtain ⟨a1, a2, a3, a4, a5, a6, a7⟩ := hd
 obtain ⟨b, pe, fu, off⟩ := d
 simp only at a1 a2 a3 a4 a5 a6 a7 hm
 have ha := appPut pe (k, x) hm
 unfold spec_l09Write_o87 spec_l09Power_o36 wrD NoPow offD decF flat
 cases off with
 | true => simp
 | false =>
  by_cases c2 : fu = 0
  ·simp [c2]
  simp only
  rw [if_neg (by simp), if_neg c2, if_neg (by omega)]
  by_cases c3 : fu > 0
  ·simp [c2, c3, wrap_in (show -9223372036854775808 ≤ fu - 1 by omega) (by omega), ha, fixLen_self]
  ·simp [c2, c3, ha, fixLen_self]
theorem iWr87 (d : DDisk) (q : PRest) (k : Int) (x : Str) (hd : DiskV d) (hm : d.2.1.length < 600) : impl_Disk_write_o87 (d, q) k x = some (flat (wrD d k x).1 q (wrD d k x).2) := by
 obtain ⟨a1, a2, a3, a4, a5, a6, a7⟩ := hd
 obtain ⟨b, pe, fu, off⟩ := d
 simp only at a1 a2 a3 a4 a5 a6 a7 hm
 have ha := appPut pe (k, x) hm
 have hm2 : ¬ (600 : Int) ≤ pe.length := by omega
 unfold impl_Disk_write_o87 impl_Disk_power_o36 wrD NoPow offD decF flat
 cases off with
 | true => simp [fixLen_self]
 | false =>
  by_cases c2 : fu = 0
  ·simp [c2, fixLen_self]
  by_cases c3 : fu > 0
  ·simp [c2, c3, wrap_in (show -9223372036854775808 ≤ fu - 1 by omega) (by omega), ha, hm2, fixLen_self]
  ·simp [c2, c3, ha, hm2, fixLen_self]
end Go.Proofs.TM
namespace Go.Proofs.TM
open Go Go.Proofs
set_option linter.unusedVariables false
set_option linter.unusedSimpArgs false
set_option maxHeartbeats 1000000
abbrev D12 := List Str × List (Int × Str) × Int × Bool × Int × Int × Int × Int × Int × Int × List (Int × Str) × List (Int × Str)
def fl12 (d : DDisk) (q : PRest) : D12 := (d.1, d.2.1, d.2.2.1, d.2.2.2, q.1.1, q.1.2.1, q.1.2.2.1, q.1.2.2.2, q.2.1, q.2.2.1, q.2.2.2.2, q.2.2.2.1)
def LogOk (n : Nat) (l : List (Int × Str)) : Prop := l.length ≤ 256 ∧ ∀ x ∈ l, 0 ≤ x.1 ∧ x.1 < n ∧ x.2.length = 64
theorem sPlace_loop {n : Nat} (d : DDisk) (q : PRest) (hd : DInv n 0 d) (hl : LogOk n q.2.2.2.1) :
  spec_l12Place_oba_l1 (flat d q (0 : Int)) = some (if (wrL d q.2.2.2.1).2 = 0 then .inl (fl12 (wrL d q.2.2.2.1).1 q) else .inr (flat (wrL d q.2.2.2.1).1 q (wrL d q.2.2.2.1).2)) := by
 have hlen := hl.1
 unfold spec_l12Place_oba_l1
 refine wr_loop (n := n) (m := 0) q.2.2.2.1 hl.2 (by omega) (fun d i => flat d q (i : Int)) (fun d => (Sum.inl (fl12 d q) : D12 ⊕ DFlat Int)) (fun r => Sum.inr (flat r.1 q r.2)) _ (fun d i x hdi hi hx => ?_) (fun d hdi => ?_) _ 0 d rfl (by omega) hd
 ·have hw := sWr87 d q x.1 x.2 hdi.1 (by have := hdi.2.2; omega)
  have hw2 := (show spec_l09Write_o87 ((d.1, d.2.1, d.2.2.1, d.2.2.2), (q.1.1, q.1.2.1, q.1.2.2.1, q.1.2.2.2), q.2.1, q.2.2.1, q.2.2.2.1, q.2.2.2.2) x.1 x.2 = _ from hw)
  have c1 : (i : Int) < (q.2.2.2.1.length : Int) := by omega
  have c2 : (0 : Int) ≤ i := by omega
  have c3 : IntKind.i64.wrap ((i : Int) + 1) = (i : Int) + 1 := w1 (by omega)
  simp only [spec_l12Place_oba_l1_b, flat, c1, c2, and_self, if_true, Int.toNat_natCast, hx, Option.bind_some]
  simp only [flat] at hw2
  rw [hw2]
  by_cases hz : (wrD d x.1 x.2).2 = 0
  ·simp only [Option.bind_some, if_true, fixLen_self, hz, not_true_eq_false, if_false, c3]
   simp
  ·simp only [Option.bind_some, if_true, fixLen_self, hz, not_false_eq_true, if_false]
 ·simp [spec_l12Place_oba_l1_b, flat, fl12]
theorem iPlace_loop {n : Nat} (d : DDisk) (q : PRest) (hd : DInv n 0 d) (hl : LogOk n q.2.2.2.1) :
  impl_Disk_writeAll_oba_l1 (q.2.2.2.1.length : Int) (flat d q (0 : Int)) = some (if (wrL d q.2.2.2.1).2 = 0 then .inl (fl12 (wrL d q.2.2.2.1).1 q) else .inr (flat (wrL d q.2.2.2.1).1 q (wrL d q.2.2.2.1).2)) := by
 have hlen := hl.1
 unfold impl_Disk_writeAll_oba_l1
 refine wr_loop (n := n) (m := 0) q.2.2.2.1 hl.2 (by omega) (fun d i => flat d q (i : Int)) (fun d => (Sum.inl (fl12 d q) : D12 ⊕ DFlat Int)) (fun r => Sum.inr (flat r.1 q r.2)) _ (fun d i x hdi hi hx => ?_) (fun d hdi => ?_) _ 0 d rfl (by omega) hd
 ·have hw := iWr87 d q x.1 x.2 hdi.1 (by have := hdi.2.2; omega)
  have hw2 := (show impl_Disk_write_o87 ((d.1, d.2.1, d.2.2.1, d.2.2.2), (q.1.1, q.1.2.1, q.1.2.2.1, q.1.2.2.2), q.2.1, q.2.2.1, q.2.2.2.1, q.2.2.2.2) x.1 x.2 = _ from hw)
  have c1 : (i : Int) < (q.2.2.2.1.length : Int) := by omega
  have c2 : (0 : Int) ≤ i := by omega
  have c3 : IntKind.i64.wrap ((i : Int) + 1) = (i : Int) + 1 := w1 (by omega)
  simp only [impl_Disk_writeAll_oba_l1_b, flat, c1, c2, and_self, if_true, Int.toNat_natCast, hx, Option.bind_some]
  simp only [flat] at hw2
  rw [hw2]
  by_cases hz : (wrD d x.1 x.2).2 = 0
  ·simp only [Option.bind_some, if_true, fixLen_self, hz, not_true_eq_false, if_false, c3]
   simp
  ·simp only [Option.bind_some, if_true, fixLen_self, hz, not_false_eq_true, if_false]
 ·simp [impl_Disk_writeAll_oba_l1_b, flat, fl12]
theorem iPlace {n : Nat} (d : DDisk) (q : PRest) (hd : DInv n 0 d) (hl : LogOk n q.2.2.2.1) :
  impl_Pager_checkpoint_c1_o60 (d, q) = some (((wrL d q.2.2.2.1).1, q), (wrL d q.2.2.2.1).2) := by
 have h := iPlace_loop d q hd hl
 unfold impl_Pager_checkpoint_c1_o60 impl_Disk_writeAll_oba
 simp only [flat] at h
 simp only
 rw [h, Option.bind_some]
 by_cases hz : (wrL d q.2.2.2.1).2 = 0
 ·rw [if_pos hz]
  simp only [Sum.elim_inl, fl12, Option.bind_some, if_true, fixLen_self, hz]
 ·rw [if_neg hz]
  simp only [Sum.elim_inr, flat, Option.bind_some, if_true, fixLen_self]
theorem sPlace {n m : Nat} (d : DDisk) (q : PRest) (hd : DInv n m d) (hl : LogOk n q.2.2.2.1) :
  spec_l12Place_oba (d, q) = some (flat (andD (barD d) fun d => andD (wrL d q.2.2.2.1) barD).1 q (andD (barD d) fun d => andD (wrL d q.2.2.2.1) barD).2) := by
 unfold spec_l12Place_oba
 rw [sBar36 d q hd.1, Option.bind_some]
 simp only [flat, if_true, fixLen_self]
 rcases barD_inv hd with ⟨h0, hi⟩ | ⟨h0, hi⟩
 ·have ha : ∀ f : DDisk → DDisk × Int, andD (barD d) f = f (barD d).1 := fun f => if_pos h0
  have h := sPlace_loop (barD d).1 q hi hl
  simp only [flat] at h
  rw [if_neg (by simpa using h0), ha, h, Option.bind_some]
  obtain ⟨_, hj⟩ := wrL_inv q.2.2.2.1 0 (barD d).1 hi hl.2 (by have := hl.1; omega)
  by_cases hz : (wrL (barD d).1 q.2.2.2.1).2 = 0
  ·rw [if_pos hz, show andD (wrL (barD d).1 q.2.2.2.1) barD = barD (wrL (barD d).1 q.2.2.2.1).1 from if_pos hz]
   simp only [Sum.elim_inl, fl12]
   generalize (wrL (barD d).1 q.2.2.2.1).1 = e at hj
   rw [show spec_l09Barrier_o36 ((e.1, e.2.1, e.2.2.1, e.2.2.2), (q.1.1, q.1.2.1, q.1.2.2.1, q.1.2.2.2), q.2.1, q.2.2.1, q.2.2.2.1, q.2.2.2.2) = _ from sBar36 e q hj.1, Option.bind_some]
   simp only [flat, if_true, fixLen_self]
  ·rw [if_neg hz, show andD (wrL (barD d).1 q.2.2.2.1) barD = wrL (barD d).1 q.2.2.2.1 from if_neg hz]
   simp only [Sum.elim_inr, flat]
 ·have hne : ¬ (barD d).2 = 0 := by omega
  rw [if_pos hne, show (andD (barD d) fun d => andD (wrL d q.2.2.2.1) barD) = barD d from if_neg hne]
theorem sSuper {n m : Nat} (d : DDisk) (q : PRest) (s : DSuper) (hd : DInv n m d) (hm : m < 600) (hn : 16 ≤ n) (hs : SuperV s) :
  spec_l12Super_o35 (d, q) s.1 s.2.1 s.2.2.1 s.2.2.2 = some (((andD (wrD d (Int.tmod s.2.2.2 2) (encS s)) barD).1, q), (andD (wrD d (Int.tmod s.2.2.2 2) (encS s)) barD).2) := by
 have ht : 0 ≤ Int.tmod s.2.2.2 2 ∧ Int.tmod s.2.2.2 2 ≤ 1 := by rw [Int.tmod_eq_emod_of_nonneg hs.2.2.2.2.2.2.2.1]; omega
 unfold spec_l12Super_o35
 rw [show spec_l10Encode (s.1, s.2.1, s.2.2.1, s.2.2.2) = _ from l10Encode_out s hs.sin, Option.bind_some, sWr d q _ _ hd.1 (by have := hd.2.2; omega), Option.bind_some]
 simp only
 obtain ⟨_, hj⟩ := wrD_inv (k := Int.tmod s.2.2.2 2) (b := encS s) hd ht.1 (by omega) (encS_length s) hm
 by_cases hz : (wrD d (Int.tmod s.2.2.2 2) (encS s)).2 = 0
 ·rw [if_neg (by simpa using hz), sBar _ q hj.1, Option.bind_some, show andD (wrD d (Int.tmod s.2.2.2 2) (encS s)) barD = barD (wrD d (Int.tmod s.2.2.2 2) (encS s)).1 from if_pos hz]
 ·rw [if_pos hz, show andD (wrD d (Int.tmod s.2.2.2 2) (encS s)) barD = wrD d (Int.tmod s.2.2.2 2) (encS s) from if_neg hz]
theorem iSuper {n m : Nat} (d : DDisk) (q : PRest) (s : DSuper) (hd : DInv n m d) (hm : m < 600) :
  impl_Pager_checkpoint_c2_o0d (d, q) s = some (((wrD d (Int.tmod s.2.2.2 2) (encS s)).1, q), s, (wrD d (Int.tmod s.2.2.2 2) (encS s)).2) := by
 unfold impl_Pager_checkpoint_c2_o0d impl_Disk_writeSuper_o35
 rw [show impl_Super_encode (s.1, s.2.1, s.2.2.1, s.2.2.2) = _ from encode_out s, Option.bind_some, iWr d q _ _ hd.1 (by have := hd.2.2; omega), Option.bind_some, Option.bind_some]
theorem zero_out : spec_l09Zero = some zB := by
 unfold spec_l09Zero
 rw [show mkL 1 64 64 (⟨0⟩ : Bt) = some (List.replicate 64 ⟨0⟩) from mkL_ok 1 64 (⟨0⟩ : Bt) (by decide) (by decide)]
 rfl
theorem sClear {n : Nat} (d : DDisk) (q : PRest) (N : Nat) (s : DSuper) (hs : s.2.1 = N) (hd : DInv n 0 d) (hN : N + 2 ≤ n) (h64 : N ≤ 64) :
  spec_l12Clear_o35 (d, q) s.1 s.2.1 s.2.2.1 s.2.2.2 = some (((andD (clrD d N 2) barD).1, q), (andD (clrD d N 2) barD).2) := by
 unfold spec_l12Clear_o35 spec_l12Clear_o35_l1
 have hA : spec_l10Area (s.1, s.2.1, s.2.2.1, s.2.2.2) = some (2 + (N : Int)) := by
  unfold spec_l10Area
  simp only [hs]
  rw [wrap_in (by omega) (by omega)]
 have hn := hd.1.2.1
 have hdn := hd.2.1
 have hloop := clr_loop (n := n) N hN (by omega) (fun d i => (((d, q) : DPager), 2 + (i : Int))) (fun d => Sum.inl (d, q)) (fun r => Sum.inr ((r.1, q), r.2)) (fun s' => spec_l12Clear_o35_l1_b (s.1, s.2.1, s.2.2.1, s.2.2.2) s'.1 s'.2)
  (fun d i hdi hi => by
   obtain ⟨r1, r2⟩ := readD_out d (2 + i) hdi.1 (by omega) (by have := hdi.2.1; omega)
   simp only [spec_l12Clear_o35_l1_b]
   rw [hA, Option.bind_some, if_pos (by omega), l09Read_out d _ (by have := hdi.2.2; omega), r1, Option.bind_some, zero_out, Option.bind_some]
   by_cases hz : rdD d (2 + i) = zB
   ·rw [if_pos hz, if_pos hz, wrap_in (by omega) (by omega)]
    simp only [Int.natCast_add, Int.natCast_one, Int.add_assoc]
   ·rw [if_neg hz, if_neg hz, Option.bind_some, sWr d q _ _ hdi.1 (by have := hdi.2.2; omega), Option.bind_some]
    simp only
    by_cases hc : (wrD d (2 + i) zB).2 = 0
    ·rw [if_neg (by simpa using hc), if_pos hc, wrap_in (by omega) (by omega)]
     simp only [Int.natCast_add, Int.natCast_one, Int.add_assoc]
    ·rw [if_pos hc, if_neg hc])
  (fun d hdi => by
   simp only [spec_l12Clear_o35_l1_b]
   rw [hA, Option.bind_some, if_neg (by omega)]) N 0 d (by omega) (by omega) hd
 simp only [Int.natCast_zero, Int.add_zero] at hloop
 rw [hloop, Option.bind_some]
 obtain ⟨_, hj⟩ := clrD_inv N 0 2 d hd (by omega) (by omega) (by omega)
 by_cases hz : (clrD d N 2).2 = 0
 ·rw [if_pos hz, show andD (clrD d N 2) barD = barD (clrD d N 2).1 from if_pos hz]
  simp only [Sum.elim_inl]
  rw [sBar _ q hj.1, Option.bind_some]
 ·rw [if_neg hz, show andD (clrD d N 2) barD = clrD d N 2 from if_neg hz]
  simp only [Sum.elim_inr]
theorem iClear {n : Nat} (d : DDisk) (q : PRest) (N : Nat) (hs : q.1.2.1 = N) (hd : DInv n 0 d) (hN : N + 2 ≤ n) (h64 : N ≤ 64) :
  impl_Pager_clearLog_o19 (d, q) = some (((clrD d N 2).1, q), (clrD d N 2).2) := by
 unfold impl_Pager_clearLog_o19 impl_Pager_clearLog_o19_l1
 simp only [hs]
 have hn := hd.1.2.1
 have hdn := hd.2.1
 have hloop := clr_loop (n := n) N hN (by omega) (fun d i => (((d, q) : DPager), (i : Int))) (fun d => Sum.inl (d, q)) (fun r => Sum.inr ((r.1, q), r.2)) (fun s' => impl_Pager_clearLog_o19_l1_b N s'.1 s'.2)
  (fun d i hdi hi => by
   obtain ⟨r1, r2⟩ := readD_out d (2 + i) hdi.1 (by omega) (by have := hdi.2.1; omega)
   obtain ⟨t, t1, t2⟩ := trimmed_out (rdD d (2 + i)) (by omega)
   have hzi := zeros_iff (rdD d (2 + i)) 64 r2
   simp only [impl_Pager_clearLog_o19_l1_b, impl_Disk_read]
   rw [if_pos (by omega), wrap_in (n := 2 + (i : Int)) (by omega) (by omega), r1, Option.bind_some, t1, Option.bind_some]
   by_cases hz : rdD d (2 + i) = zB
   ·rw [if_pos (t2.2 (hzi.1 hz)), if_pos hz, w1 (by omega)]; rfl
   ·rw [if_neg (fun h => hz (hzi.2 (t2.1 h))), if_neg hz, show impl_zeros 64 = some zB from zeros_out 64 (by omega), Option.bind_some, iWr d q _ _ hdi.1 (by have := hdi.2.2; omega), Option.bind_some]
    simp only
    by_cases hc : (wrD d (2 + i) zB).2 = 0
    ·rw [if_neg (by simpa using hc), if_pos hc, w1 (by omega)]; rfl
    ·rw [if_pos hc, if_neg hc])
  (fun d hdi => by
   simp only [impl_Pager_clearLog_o19_l1_b]
   rw [if_neg (by omega)]) N 0 d (by omega) (by omega) hd
 simp only [Int.natCast_zero, Int.add_zero] at hloop
 rw [hloop, Option.bind_some]
 by_cases hz : (clrD d N 2).2 = 0
 ·rw [if_pos hz]
  simp only [Sum.elim_inl, hz]
 ·rw [if_neg hz]
  simp only [Sum.elim_inr]
end Go.Proofs.TM
