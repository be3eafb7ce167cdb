/- Padding. -/
import Derived.Test.YtkkjaphfjlfpgaaGreatLBase
import Derived.Test.YtkkjaphfjlfpgaaGreatLLoop
namespace Go.Proofs.TM
open Go Go.Proofs
set_option linter.unusedVariables false
set_option linter.unusedSimpArgs false
set_option maxHeartbeats 1000000

/-! ### Padding -/
theorem repeatL_zero (c : Nat) : Lib.repeatL [0] c = List.replicate c 0 := by
  induction c with
  | zero => rfl
  | succ c ih => simp [Lib.repeatL, ih, List.replicate_succ]
theorem zeros_out (n : Nat) (h : n ≤ 1048576) : impl_zeros n = some (List.replicate n 0) := by
  unfold impl_zeros strings_Repeat repS
  rw [if_pos ⟨by omega, by omega, by simp; omega⟩, Option.bind_some, Int.toNat_natCast, repeatL_zero]
theorem l01Pad_out (s : Str) (n : Nat) (hs : s.length ≤ n) (h : n ≤ 1048576) : spec_l01Pad s n = some (s ++ List.replicate (n - s.length) 0) := by
  unfold spec_l01Pad
  by_cases hc : (s.length : Int) ≥ n
  · rw [if_pos hc, show n - s.length = 0 by omega]; simp
  · rw [if_neg hc, wrap_in (by omega) (by omega), show (n : Int) - (s.length : Int) = ((n - s.length : Nat) : Int) by omega, mkL_ok 1 _ _ (by unfold maxRow; omega) (by unfold maxRow; omega), Option.bind_some, if_pos (by simp; omega)]
    simp
theorem padded_out (s : Str) (n : Nat) (hs : s.length ≤ n) (h : n ≤ 1048576) : impl_padded s n = some (s ++ List.replicate (n - s.length) 0) := by
  unfold impl_padded
  rw [wrap_in (by omega) (by omega), show (n : Int) - (s.length : Int) = ((n - s.length : Nat) : Int) by omega, zeros_out _ (by omega), Option.bind_some, if_pos (by simp; omega)]

end Go.Proofs.TM
