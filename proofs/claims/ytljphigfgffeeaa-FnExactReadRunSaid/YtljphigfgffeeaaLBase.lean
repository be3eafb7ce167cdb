/- Words of the laws on disks and pagers. -/
import Derived.Test.YtljphigfgffeeaaC2
import Derived.Test.YtljphigfgffeeaaLLoop
import Derived.Test.YtljphigfgffeeaaTGlue
namespace Go.Proofs.TM
open Go Go.Proofs
set_option linter.unusedVariables false
set_option linter.unusedSimpArgs false
set_option maxHeartbeats 1000000

abbrev DDisk := List Str × List (Int × Str) × Int × Bool
abbrev DSuper := Int × Int × Int × Int
theorem w1 {i : Nat} (h : i < 9223372036854775807) : IntKind.i64.wrap ((i : Int) + 1) = (i : Int) + 1 := wrap_in (by omega) (by omega)

def StrsOk (l : List Str) : Prop := l.length ≤ 9223372036854775807 ∧ ∀ x ∈ l, x.length ≤ 9223372036854775807
def PutsOk (l : List (Int × Str)) : Prop := l.length ≤ 9223372036854775807 ∧ ∀ x ∈ l, x.2.length ≤ 9223372036854775807

theorem dF {Q : Prop} {d : Decidable Q} (h : ¬Q) : some false = some (@decide Q d) := by rw [decide_eq_false h]
theorem dT {Q : Prop} {d : Decidable Q} (h : Q) : some true = some (@decide Q d) := by rw [decide_eq_true h]
theorem dI {P Q : Prop} {d : Decidable P} {d' : Decidable Q} (h : P ↔ Q) : some (@decide P d) = some (@decide Q d') := by
  by_cases hp : P
  · rw [decide_eq_true hp, decide_eq_true (h.1 hp)]
  · rw [decide_eq_false hp, decide_eq_false (fun q => hp (h.2 q))]
theorem deq {p : Prop} {d : Decidable p} : (@decide p d = true) = p := by simp
theorem dT' {Q : Prop} {d : Decidable Q} (h : Q) : some (@decide Q d) = some true := (dT h).symm
theorem bind_some' {α : Type} (x : Option α) : (x.bind fun r => some r) = x := by cases x <;> rfl
theorem strsOk_of {l : List Str} (h : Gd.ok l) : StrsOk l := ⟨Nat.le_trans h.1 (by decide), fun x hx => Nat.le_trans (h.2 x hx).1 (by decide)⟩
theorem putsOk_of {l : List (Int × Str)} (h : Gd.ok l) : PutsOk l := ⟨Nat.le_trans h.1 (by decide), fun x hx => Nat.le_trans (h.2 x hx).2.1 (by decide)⟩
theorem subL_from {α : Type} (s : List α) (k : Nat) (h : k ≤ s.length) : subL s (some (k : Int)) none = some (s.drop k) := by
  simp [subL, bound, h]
theorem subL_to {α : Type} (s : List α) (k : Nat) (h : k ≤ s.length) : subL s none (some (k : Int)) = some (s.take k) := by
  simp [subL, bound, h]
theorem subL_mid {α : Type} (s : List α) (a b : Nat) (h : a ≤ b) (h' : b ≤ s.length) : subL s (some (a : Int)) (some (b : Int)) = some ((s.take b).drop a) := by
  simp [subL, bound, h, h']
end Go.Proofs.TM
