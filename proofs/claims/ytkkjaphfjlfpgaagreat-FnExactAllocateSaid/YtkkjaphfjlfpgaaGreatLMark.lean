/- Marks, and what is found of them. -/
import Derived.Test.YtkkjaphfjlfpgaaGreatLDisk
namespace Go.Proofs.TM
open Go Go.Proofs
set_option linter.unusedVariables false
set_option linter.unusedSimpArgs false
set_option maxHeartbeats 1000000

theorem markText_loop (k : Nat) : ∀ s : Str, s.length + k ≤ 9223372036854775807 → ∃ s', laws_markText_l1 ((k : Int), s) = some s' ∧ s'.length ≤ s.length + k := by
  induction k using Nat.strongRecOn with
  | _ k ih =>
    intro s hs
    unfold laws_markText_l1
    rw [loopO_unfold]
    by_cases hk : k = 0
    · subst hk; exact ⟨s, by simp [laws_markText_l1_b], by omega⟩
    · have hd : Int.tdiv (k : Int) 10 = ((k / 10 : Nat) : Int) := by rw [Int.tdiv_eq_ediv_of_nonneg (by omega)]; rfl
      have hw : IntKind.i64.wrap ((k / 10 : Nat) : Int) = ((k / 10 : Nat) : Int) := wrap_in (by omega) (by omega)
      generalize hb : (⟨UInt8.ofNat ((IntKind.u8.wrap ((IntKind.i64.wrap (48 + (Int.tmod (k : Int) 10)))))).toNat⟩ : Bt) = b
      have hstep : laws_markText_l1_b (k : Int) s = some (.inl (((k / 10 : Nat) : Int), b.v :: s)) := by
        simp only [laws_markText_l1_b, hb, hd, hw]
        rw [if_pos (by omega)]
        rw [if_pos (by simp [lit]; omega)]
        rfl
      simp only [hstep, Option.bind_some, Sum.elim_inl]
      obtain ⟨s', h1, h2⟩ := ih (k / 10) (by omega) (b.v :: s) (by simp; omega)
      exact ⟨s', h1, by simp at h2; omega⟩
theorem markText_ex (k : Int) (h : k ≤ 1099511627776) : ∃ s, laws_markText k = some s := by
  unfold laws_markText
  by_cases hk : k ≤ 0
  · exact ⟨_, if_pos hk⟩
  · obtain ⟨n, rfl⟩ : ∃ n : Nat, k = n := ⟨k.toNat, by omega⟩
    obtain ⟨s, h1, h2⟩ := markText_loop n [] (by simp; omega)
    rw [if_neg hk, h1, Option.bind_some, if_pos (by simp at h2 ⊢; omega)]
    exact ⟨_, rfl⟩
noncomputable def mt (k : Int) : Str := (laws_markText k).getD []
theorem markText_mt {k : Int} (h : k ≤ 1099511627776) : laws_markText k = some (mt k) := by
  obtain ⟨s, hs⟩ := markText_ex k h; rw [mt, hs]; rfl

def Marked {α : Type} (e : Int → α) (w : Nat) (K : Int) (l : List α) : Prop := ∀ j : Nat, j < l.length → l[j]? = some (e (K + w * j))
noncomputable def ePut (k : Int) : Int × Str := (k, mt (k + 1))

theorem markStringS_out (l : List Str) (h : l.length ≤ 1048576) (K : Int) (h0 : 0 ≤ K) (hK : K ≤ 1073741824) : ∃ m, laws_markStringS_o35 l K = some (m, K + l.length) ∧ m.length = l.length ∧ Marked mt 1 K m := by
  unfold laws_markStringS_o35 laws_markStringS_o35_l1
  obtain ⟨m, h1, h2, h3⟩ := loop_mark 1 mt l.length K (fun s => laws_markStringS_o35_l1_b s.1 s.2.1 s.2.2) (fun m i k hi hm hk => by
    obtain ⟨y, hy⟩ := get_at (l := m) (by omega : i < m.length)
    simp [laws_markStringS_o35_l1_b, hi, hm, hy, markText_mt (show k ≤ 1099511627776 by omega), w1 (show i < 9223372036854775807 by omega), wrap_in (show -9223372036854775808 ≤ k + 1 by omega) (by omega)]) (fun m k hm => by simp [laws_markStringS_o35_l1_b, hm]) l rfl
  exact ⟨m, by rw [h1]; simp, h2, by unfold Marked; rw [h2]; exact h3⟩
theorem markPutS_out (l : List (Int × Str)) (h : l.length ≤ 1048576) (K : Int) (h0 : 0 ≤ K) (hK : K ≤ 1073741824) : ∃ m, laws_markPutS_o2a l K = some (m, K + 2 * l.length) ∧ m.length = l.length ∧ Marked ePut 2 K m := by
  unfold laws_markPutS_o2a laws_markPutS_o2a_l1
  obtain ⟨m, h1, h2, h3⟩ := loop_mark 2 ePut l.length K (fun s => laws_markPutS_o2a_l1_b s.1 s.2.1 s.2.2) (fun m i k hi hm hk => by
    obtain ⟨y, hy⟩ := get_at (l := m) (by omega : i < m.length)
    simp [laws_markPutS_o2a_l1_b, hi, hm, hy, w1 (show i < 9223372036854775807 by omega), wrap_in (show -9223372036854775808 ≤ k + 1 by omega) (by omega), markText_mt (show k + 1 ≤ 1099511627776 by omega), wrap_in (show -9223372036854775808 ≤ k + 2 by omega) (by omega), ePut, Int.add_assoc]) (fun m k hm => by simp [laws_markPutS_o2a_l1_b, hm]) l rfl
  exact ⟨m, by rw [h1]; simp, h2, by unfold Marked; rw [h2]; exact h3⟩
theorem heldStringS_out (l : List Str) (h : l.length ≤ 1048576) (K : Int) (h0 : 0 ≤ K) (hK : K ≤ 1073741824) (hm : Marked mt 1 K l) : laws_heldStringS l K = some (K + l.length) := by
  unfold laws_heldStringS laws_heldStringS_l1
  rw [loop_held 1 l.length K (fun s => laws_heldStringS_l1_b l s.1 s.2) (fun i k hi hk => by
    have hg := hm i hi
    rw [← hk] at hg
    have hg' := (List.getElem?_eq_some_iff.1 hg).2
    simp [laws_heldStringS_l1_b, hi, hg', markText_mt (show k ≤ 1099511627776 by omega), w1 (show i < 9223372036854775807 by omega), wrap_in (show -9223372036854775808 ≤ k + 1 by omega) (by omega)]) (fun k => by simp [laws_heldStringS_l1_b])]
  simp
theorem heldPutS_out (l : List (Int × Str)) (h : l.length ≤ 1048576) (K : Int) (h0 : 0 ≤ K) (hK : K ≤ 1073741824) (hm : Marked ePut 2 K l) : laws_heldPutS l K = some (K + 2 * l.length) := by
  unfold laws_heldPutS laws_heldPutS_l1
  rw [loop_held 2 l.length K (fun s => laws_heldPutS_l1_b l s.1 s.2) (fun i k hi hk => by
    have hg := hm i hi
    rw [← hk] at hg
    have hg' := (List.getElem?_eq_some_iff.1 hg).2
    simp [laws_heldPutS_l1_b, hi, hg', ePut, w1 (show i < 9223372036854775807 by omega), wrap_in (show -9223372036854775808 ≤ k + 1 by omega) (by omega), markText_mt (show k + 1 ≤ 1099511627776 by omega), wrap_in (show -9223372036854775808 ≤ k + 2 by omega) (by omega), Int.add_assoc]) (fun k => by simp [laws_heldPutS_l1_b])]
  simp
end Go.Proofs.TM
