/- Reading a block of a disk. -/
import Derived.Test.YtljphigfgffeeaaLDisk
import Derived.Test.YtljphigfgffeeaaTReadR
namespace Go.Proofs.TM
open Go Go.Proofs
set_option linter.unusedVariables false
set_option linter.unusedSimpArgs false
set_option maxHeartbeats 1000000

theorem loop_back {α ρ : Type} (p : α → Bool) (f : Int → Option (Int ⊕ ρ)) (rN : ρ) (rF : α → ρ) (h3 : f (-1) = some (.inr rN)) : ∀ (m : Nat) (l : List α), l.length = m →
    (∀ (i : Nat) x, l[i]? = some x → p x = false → f (i : Int) = some (.inl ((i : Int) - 1))) →
    (∀ (i : Nat) x, l[i]? = some x → p x = true → f (i : Int) = some (.inr (rF x))) →
    loopO f ((m : Int) - 1) = some (match l.reverse.find? p with | some x => rF x | none => rN) := by
  intro m
  induction m with
  | zero =>
    intro l hl h1 h2
    obtain rfl := List.eq_nil_of_length_eq_zero hl
    rw [loopO_unfold, show ((0 : Nat) : Int) - 1 = -1 by omega, h3]; rfl
  | succ m ih =>
    intro l hl h1 h2
    obtain ⟨l', x, rfl⟩ : ∃ l' x, l = l' ++ [x] := by
      have := List.dropLast_concat_getLast (l := l) (by intro h; subst h; simp at hl)
      exact ⟨_, _, this.symm⟩
    have hl' : l'.length = m := by simpa using hl
    have hx : (l' ++ [x])[m]? = some x := by rw [← hl']; simp
    rw [loopO_unfold, show ((m + 1 : Nat) : Int) - 1 = (m : Int) by omega, List.reverse_append]
    simp only [List.reverse_cons, List.reverse_nil, List.nil_append, List.cons_append, List.find?_cons]
    cases hp : p x with
    | true => rw [h2 m x hx hp]; rfl
    | false =>
      rw [h1 m x hx hp]
      simp only [Option.bind_some, Sum.elim_inl]
      refine ih l' hl' (fun i y hy hpy => h1 i y ?_ hpy) (fun i y hy hpy => h2 i y ?_ hpy)
      · rw [List.getElem?_append_left (List.getElem?_eq_some_iff.1 hy).1]; exact hy
      · rw [List.getElem?_append_left (List.getElem?_eq_some_iff.1 hy).1]; exact hy

theorem l09Read_out (d : DDisk) (k : Int) (h : d.2.1.length ≤ 1048576) : spec_l09Read d k = readD d k := by
  unfold spec_l09Read spec_l09Read_l1 readD
  rw [wrap_in (by omega) (by omega), if_pos (by omega)]
  rw [loop_back (fun p : Int × Str => decide (p.1 = k)) (fun s => spec_l09Read_l1_b d.1 d.2.1 d.2.2.1 d.2.2.2 k s) (.inl (d.1, d.2.1, d.2.2.1, d.2.2.2, k)) (fun x => .inr x.2) (by simp [spec_l09Read_l1_b]) d.2.1.length d.2.1 rfl (fun i x hx hp => ?_) (fun i x hx hp => ?_)]
  · rw [Option.bind_some]
    cases hf : d.2.1.reverse.find? (fun p => decide (p.1 = k)) with
    | some p => rfl
    | none =>
      simp only [Sum.elim_inl]
      split
      · cases d.1[k.toNat]? <;> rfl
      · rfl
  · have hi := (List.getElem?_eq_some_iff.1 hx).1
    have hp' : ¬ x.1 = k := by simpa using hp
    simp only [spec_l09Read_l1_b]
    rw [if_pos (by omega), if_pos (by omega), Int.toNat_natCast, hx, Option.bind_some, if_neg hp', wrap_in (by omega) (by omega)]
  · have hi := (List.getElem?_eq_some_iff.1 hx).1
    have hp' : x.1 = k := by simpa using hp
    simp only [spec_l09Read_l1_b]
    rw [if_pos (by omega), if_pos (by omega), Int.toNat_natCast, hx, Option.bind_some, if_pos hp', if_pos (by omega), Option.bind_some]

/-- The contents of a block of a valid disk. -/
def rdD (d : DDisk) (k : Int) : Str := match d.2.1.reverse.find? (fun p => decide (p.1 = k)) with
  | some p => p.2
  | none => d.1.getD k.toNat []
theorem readD_out (d : DDisk) (k : Int) (hd : DiskV d) (h0 : 0 ≤ k) (h1 : k < (d.1.length : Int)) : readD d k = some (rdD d k) ∧ (rdD d k).length = 64 := by
  obtain ⟨a1, a2, a3, a4, a5, a6, a7⟩ := hd
  unfold readD rdD
  rw [if_pos (by omega)]
  cases hf : d.2.1.reverse.find? (fun p => decide (p.1 = k)) with
  | some p =>
    exact ⟨rfl, (a7 p (by have := List.mem_of_find?_eq_some hf; simpa using this)).2.2⟩
  | none =>
    simp only
    rw [if_pos h0]
    obtain ⟨x, hx⟩ := get_at (l := d.1) (i := k.toNat) (by omega)
    rw [List.getD_eq_getElem?_getD, hx]
    exact ⟨rfl, a6 x (List.mem_of_getElem? hx)⟩
end Go.Proofs.TM
