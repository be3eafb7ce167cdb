import Derived.Test.YtcibapigoeknmaaTFun
import Derived.Test.YtcibapigoeknmaaSU2
import Derived.Test.YtcibapigoeknmaaTGlue
import Derived.Test.YtcibapigoeknmaaTReadR
namespace Go.Proofs.TM
open Go Go.Proofs
set_option linter.unusedVariables false
set_option linter.unusedSimpArgs false
theorem loop_some {σ ρ : Type} {f : σ → Option (σ ⊕ ρ)} {r : ρ} (n : Nat) (I : Nat → σ → Prop)
  (h : ∀ i s, i ≤ n → I i s → f s = some (.inr r) ∨ (i < n ∧ ∃ s', f s = some (.inl s') ∧ I (i + 1) s')) :
  ∀ k i s, k + i = n → I i s → loopO f s = some r := by
 intro k
 induction k with
 | zero =>
  intro i s hi hs
  rcases h i s (by omega) hs with h1 | ⟨h1, _⟩
  ·rw [loopO_unfold, h1]; rfl
  ·omega
 | succ k ih =>
  intro i s hi hs
  rcases h i s (by omega) hs with h1 | ⟨h1, s', h2, h3⟩
  ·rw [loopO_unfold, h1]; rfl
  ·rw [loopO_unfold, h2]; exact ih (i + 1) s' (by omega) h3
theorem loop_ex {σ ρ : Type} {f : σ → Option (σ ⊕ ρ)} (P : ρ → Prop) (n : Nat) (I : Nat → σ → Prop)
  (h : ∀ i s, i ≤ n → I i s → (∃ r, f s = some (.inr r) ∧ P r) ∨ (i < n ∧ ∃ s', f s = some (.inl s') ∧ I (i + 1) s')) :
  ∀ k i s, k + i = n → I i s → ∃ r, loopO f s = some r ∧ P r := by
 intro k
 induction k with
 | zero =>
  intro i s hi hs
  rcases h i s (by omega) hs with ⟨r, h1, hp⟩ | ⟨h1, _⟩
  ·exact ⟨r, by rw [loopO_unfold, h1]; rfl, hp⟩
  ·omega
 | succ k ih =>
  intro i s hi hs
  rcases h i s (by omega) hs with ⟨r, h1, hp⟩ | ⟨h1, s', h2, h3⟩
  ·exact ⟨r, by rw [loopO_unfold, h1]; rfl, hp⟩
  ·obtain ⟨r, hr, hp⟩ := ih (i + 1) s' (by omega) h3
   exact ⟨r, by rw [loopO_unfold, h2]; exact hr, hp⟩
open Classical in
theorem loop_all {ρ : Type} (n : Nat) (p : Nat → Prop) (f : Int → Option (Int ⊕ ρ)) (rT rF : ρ)
  (h1 : ∀ i : Nat, i < n → p i → f (i : Int) = some (.inl ((i : Int) + 1)))
  (h2 : ∀ i : Nat, i < n → ¬p i → f (i : Int) = some (.inr rF))
  (h3 : f (n : Int) = some (.inr rT)) : loopO f 0 = some (if ∀ i, i < n → p i then rT else rF) := by
 by_cases hp : ∀ i, i < n → p i
 ·rw [if_pos hp]
  refine loop_some n (fun i s => s = (i : Int)) (fun i s hi hs => ?_) n 0 0 (by omega) rfl
  subst hs
  by_cases hn : i < n
  ·exact .inr ⟨hn, _, h1 i hn (hp i hn), by omega⟩
  ·have : i = n := by omega
   subst this; exact .inl h3
 ·rw [if_neg hp]
  refine loop_some n (fun i s => s = (i : Int) ∧ ∀ j, j < i → p j) (fun i s hi hs => ?_) n 0 0 (by omega) ⟨rfl, fun j hj => by omega⟩
  obtain ⟨rfl, hall⟩ := hs
  by_cases hn : i < n
  ·by_cases hpi : p i
   ·refine .inr ⟨hn, _, h1 i hn hpi, by omega, fun j hj => ?_⟩
    by_cases hji : j = i
    ·subst hji; exact hpi
    ·exact hall j (by omega)
   ·exact .inl (h2 i hn hpi)
  ·have : i = n := by omega
   subst this; exact absurd hall hp
theorem all_get {α : Type} {l : List α} {P : α → Prop} : (∀ i, i < l.length → ∀ x, l[i]? = some x → P x) ↔ ∀ x ∈ l, P x := by
 constructor
 ·intro h x hx
  obtain ⟨i, hi, rfl⟩ := List.mem_iff_getElem.1 hx
  exact h i hi _ (List.getElem?_eq_getElem hi)
 ·intro h i hi x hx
  exact h x (List.mem_of_getElem? hx)
open Classical in
theorem loop_mem {α ρ : Type} (l : List α) (p : α → Prop) (f : Int → Option (Int ⊕ ρ)) (rT rF : ρ)
  (h1 : ∀ (i : Nat) x, i < l.length → l[i]? = some x → p x → f (i : Int) = some (.inl ((i : Int) + 1)))
  (h2 : ∀ (i : Nat) x, i < l.length → l[i]? = some x → ¬p x → f (i : Int) = some (.inr rF))
  (h3 : f (l.length : Int) = some (.inr rT)) : loopO f 0 = some (if ∀ x ∈ l, p x then rT else rF) := by
 rw [loop_all l.length (fun i => ∀ x, l[i]? = some x → p x) f rT rF ?_ ?_ h3]
 ·simp only [all_get]
 ·intro i hi hp
  obtain ⟨x, hx⟩ : ∃ x, l[i]? = some x := ⟨_, List.getElem?_eq_getElem hi⟩
  exact h1 i x hi hx (hp x hx)
 ·intro i hi hp
  obtain ⟨x, hx⟩ : ∃ x, l[i]? = some x := ⟨_, List.getElem?_eq_getElem hi⟩
  exact h2 i x hi hx (fun h => hp (fun y hy => by rw [hx] at hy; cases hy; exact h))
theorem loop_find {α ρ : Type} (l : List α) (p : α → Prop) (f : Int → Option (Int ⊕ (ρ ⊕ Int))) (rT : ρ)
  (h1 : ∀ (i : Nat) x, i < l.length → l[i]? = some x → p x → f (i : Int) = some (.inl ((i : Int) + 1)))
  (h2 : ∀ (i : Nat) x, i < l.length → l[i]? = some x → ¬p x → f (i : Int) = some (.inr (.inr (i : Int))))
  (h3 : f (l.length : Int) = some (.inr (.inl rT))) :
  ∃ r, loopO f 0 = some r ∧ ((r = .inl rT ∧ ∀ x ∈ l, p x) ∨ (∃ k : Int, r = .inr k ∧ 0 ≤ k ∧ ¬∀ x ∈ l, p x)) := by
 refine loop_ex _ l.length (fun i s => s = (i : Int) ∧ ∀ j, j < i → ∀ x, l[j]? = some x → p x) (fun i s hi hs => ?_) l.length 0 0 (by omega) ⟨rfl, fun j hj => by omega⟩
 obtain ⟨rfl, hall⟩ := hs
 by_cases hn : i < l.length
 ·obtain ⟨x, hx⟩ : ∃ x, l[i]? = some x := ⟨_, List.getElem?_eq_getElem hn⟩
  by_cases hpi : p x
  ·refine .inr ⟨hn, _, h1 i x hn hx hpi, by omega, fun j hj y hy => ?_⟩
   by_cases hji : j = i
   ·subst hji; rw [hx] at hy; cases hy; exact hpi
   ·exact hall j (by omega) y hy
  ·refine .inl ⟨_, h2 i x hn hx hpi, .inr ⟨i, rfl, by omega, fun h => hpi (h x (List.mem_of_getElem? hx))⟩⟩
 ·have : i = l.length := by omega
  subst this
  exact .inl ⟨_, h3, .inl ⟨rfl, all_get.1 hall⟩⟩
theorem loop_copy {α : Type} (l : List α) (f : List α × Int → Option ((List α × Int) ⊕ List α))
  (h1 : ∀ (m : List α) (i : Nat) x, i < l.length → l[i]? = some x → m.length = l.length → f (m, (i : Int)) = some (.inl (m.set i x, (i : Int) + 1)))
  (h2 : ∀ m : List α, f (m, (l.length : Int)) = some (.inr m)) (m : List α) (hm : m.length = l.length) : loopO f (m, 0) = some l := by
 refine loop_some l.length (fun i s => s.2 = (i : Int) ∧ s.1.length = l.length ∧ ∀ j, j < i → s.1[j]? = l[j]?) (fun i s hi hs => ?_) l.length 0 _ (by omega) ⟨rfl, hm, fun j hj => by omega⟩
 obtain ⟨m, k⟩ := s
 obtain ⟨rfl, hml, hall⟩ := hs
 simp only at hml hall ⊢
 by_cases hn : i < l.length
 ·obtain ⟨x, hx⟩ : ∃ x, l[i]? = some x := ⟨_, List.getElem?_eq_getElem hn⟩
  refine .inr ⟨hn, _, h1 m i x hn hx hml, by simp, by simp [hml], fun j hj => ?_⟩
  by_cases hji : j = i
  ·subst hji; simp only; rw [List.getElem?_set_self (by omega), hx]
  ·simp only; rw [List.getElem?_set_ne (by omega)]; exact hall j (by omega)
 ·have : i = l.length := by omega
  subst this
  refine .inl ?_
  rw [h2]
  congr 2
  apply List.ext_getElem?
  intro j
  by_cases hj : j < l.length
  ·exact hall j hj
  ·rw [List.getElem?_eq_none (by omega), List.getElem?_eq_none (by omega)]
open Classical in
theorem loop_eq {α ρ : Type} (l m : List α) (hl : l.length = m.length) (f : Int → Option (Int ⊕ ρ)) (rT rF : ρ)
  (h1 : ∀ (i : Nat) x, i < l.length → l[i]? = some x → m[i]? = some x → f (i : Int) = some (.inl ((i : Int) + 1)))
  (h2 : ∀ (i : Nat) x y, i < l.length → l[i]? = some x → m[i]? = some y → ¬x = y → f (i : Int) = some (.inr rF))
  (h3 : f (l.length : Int) = some (.inr rT)) : loopO f 0 = some (if l = m then rT else rF) := by
 rw [loop_all l.length (fun i => l[i]? = m[i]?) f rT rF ?_ ?_ h3]
 ·have : (∀ i, i < l.length → l[i]? = m[i]?) ↔ l = m := by
   constructor
   ·intro h
    apply List.ext_getElem?
    intro j
    by_cases hj : j < l.length
    ·exact h j hj
    ·rw [List.getElem?_eq_none (by omega), List.getElem?_eq_none (by omega)]
   ·rintro rfl i hi; rfl
  simp only [this]
 ·intro i hi hp
  obtain ⟨x, hx⟩ : ∃ x, l[i]? = some x := ⟨_, List.getElem?_eq_getElem hi⟩
  exact h1 i x hi hx (by rw [← hp, hx])
 ·intro i hi hp
  obtain ⟨x, hx⟩ : ∃ x, l[i]? = some x := ⟨_, List.getElem?_eq_getElem hi⟩
  obtain ⟨y, hy⟩ : ∃ y, m[i]? = some y := ⟨_, List.getElem?_eq_getElem (by omega)⟩
  exact h2 i x y hi hx hy (fun h => hp (by rw [hx, hy, h]))
theorem loop_room (n : Nat) (f : Int × Int → Option ((Int × Int) ⊕ (Int ⊕ Int))) (L : Int)
  (h1 : ∀ (i : Nat) (k : Int), i < n → 0 ≤ k → k ≤ L → f (k, (i : Int)) = some (.inr (.inr (-1))) ∨ ∃ k', 0 ≤ k' ∧ k' ≤ k ∧ f (k, (i : Int)) = some (.inl (k', (i : Int) + 1)))
  (h2 : ∀ k : Int, f (k, (n : Int)) = some (.inr (.inl k))) (h0 : 0 ≤ L) : ∃ r, loopO f (L, 0) = some r ∧ (r = .inr (-1) ∨ ∃ k, r = .inl k ∧ 0 ≤ k ∧ k ≤ L) := by
 refine loop_ex _ n (fun i s => s.2 = (i : Int) ∧ 0 ≤ s.1 ∧ s.1 ≤ L) (fun i s hi hs => ?_) n 0 _ (by omega) ⟨rfl, h0, Int.le_refl _⟩
 obtain ⟨k, j⟩ := s
 obtain ⟨rfl, hk0, hk⟩ := hs
 simp only at hk0 hk ⊢
 by_cases hn : i < n
 ·rcases h1 i k hn hk0 hk with h | ⟨k', a, b, h⟩
  ·exact .inl ⟨_, h, .inl rfl⟩
  ·exact .inr ⟨hn, _, h, by simp, a, by simp only; omega⟩
 ·have : i = n := by omega
  subst this
  exact .inl ⟨_, h2 k, .inr ⟨k, rfl, hk0, hk⟩⟩
theorem loop_mark {α : Type} (w : Nat) (e : Int → α) (n : Nat) (K : Int) (f : List α × Int × Int → Option ((List α × Int × Int) ⊕ (List α × Int)))
  (h1 : ∀ (m : List α) (i : Nat) (k : Int), i < n → m.length = n → k = K + w * i → f (m, k, (i : Int)) = some (.inl (m.set i (e k), k + w, (i : Int) + 1)))
  (h2 : ∀ (m : List α) (k : Int), m.length = n → f (m, k, (n : Int)) = some (.inr (m, k))) (m : List α) (hm : m.length = n) :
  ∃ m', loopO f (m, K, 0) = some (m', K + w * n) ∧ m'.length = n ∧ ∀ j : Nat, j < n → m'[j]? = some (e (K + w * j)) := by
 have := loop_ex (f := f) (fun r => r.2 = K + w * n ∧ r.1.length = n ∧ ∀ j : Nat, j < n → r.1[j]? = some (e (K + w * j))) n (fun i s => s.2.2 = (i : Int) ∧ s.2.1 = K + w * i ∧ s.1.length = n ∧ ∀ j : Nat, j < i → s.1[j]? = some (e (K + w * j))) (fun i s hi hs => ?_) n 0 (m, K, 0) (by omega) ⟨rfl, by simp, hm, fun j hj => by omega⟩
 ·obtain ⟨⟨m', k'⟩, hr, hk, hl, ha⟩ := this
  exact ⟨m', by rw [hr]; simp only at hk; rw [hk], hl, ha⟩
 ·obtain ⟨m, k, j⟩ := s
  obtain ⟨rfl, hk, hml, hall⟩ := hs
  simp only at hk hml hall ⊢
  by_cases hn : i < n
  ·refine .inr ⟨hn, _, h1 m i k hn hml hk, by simp, ?_, by simp [hml], fun j hj => ?_⟩
   ·simp only; rw [hk]; push_cast; rw [Int.mul_add]; omega
   ·simp only
    by_cases hji : j = i
    ·subst hji; rw [List.getElem?_set_self (by omega), hk]
    ·rw [List.getElem?_set_ne (by omega)]; exact hall j (by omega)
  ·have : i = n := by omega
   subst this
   exact .inl ⟨_, h2 m k hml, hk, hml, hall⟩
theorem loop_held {ρ : Type} (w n : Nat) (K : Int) (f : Int × Int → Option ((Int × Int) ⊕ (Int ⊕ ρ)))
  (h1 : ∀ (i : Nat) (k : Int), i < n → k = K + w * i → f (k, (i : Int)) = some (.inl (k + w, (i : Int) + 1)))
  (h2 : ∀ (k : Int), f (k, (n : Int)) = some (.inr (.inl k))) : loopO f (K, 0) = some (.inl (K + w * n)) := by
 refine loop_some n (fun i s => s.2 = (i : Int) ∧ s.1 = K + w * i) (fun i s hi hs => ?_) n 0 _ (by omega) ⟨rfl, by simp⟩
 obtain ⟨k, j⟩ := s
 obtain ⟨rfl, hk⟩ := hs
 simp only at hk ⊢
 by_cases hn : i < n
 ·refine .inr ⟨hn, _, h1 i k hn hk, by simp, ?_⟩
  simp only; rw [hk]; push_cast; rw [Int.mul_add]; omega
 ·have : i = n := by omega
  subst this
  left; rw [h2, hk]
theorem wrap_in {n : Int} (h : -9223372036854775808 ≤ n) (h' : n ≤ 9223372036854775807) : IntKind.i64.wrap n = n := by rw [IntKind.wrap_i64]; omega
theorem get_at {α : Type} {l : List α} {i : Nat} (h : i < l.length) : ∃ x, l[i]? = some x := ⟨_, List.getElem?_eq_getElem h⟩
theorem mkL_ok {α : Type} (bs n : Nat) (z : α) (h : n * bs ≤ maxRow) (h' : n ≤ maxRow) : mkL bs (n : Int) (n : Int) z = some (List.replicate n z) := by
 unfold mkL; rw [if_pos ⟨by omega, rfl, by simpa using h, by simpa using h'⟩]; simp
theorem appL_nil {α : Type} (bs : Nat) (l : List α) (h : l.length * (bs + 1) ≤ maxRow) : appL bs [] l = some l := by
 unfold appL; rw [if_pos (by simpa using h)]; simp
end Go.Proofs.TM
namespace Go.Proofs.TM
open Go Go.Proofs
set_option linter.unusedVariables false
set_option linter.unusedSimpArgs false
set_option maxHeartbeats 1000000
abbrev DDisk := List Str × List (Int × Str) × Int × Bool
abbrev DSuper := Int × Int × Int × Int
theorem w1 {i : Nat} (h : i < 9223372036854775807) : IntKind.i64.wrap ((i : Int) + 1) = (i : Int) + 1 := wrap_in (by omega) (by omega)
def StrsOk (l : List Str) : Prop := l.length ≤ 9223372036854775807 ∧ ∀ x ∈ l, x.length ≤ 9223372036854775807
def PutsOk (l : List (Int × Str)) : Prop := l.length ≤ 9223372036854775807 ∧ ∀ x ∈ l, x.2.length ≤ 9223372036854775807
theorem dF {Q : Prop} {d : Decidable Q} (h : ¬Q) : some false = some (@decide Q d) := by rw [decide_eq_false h]
theorem dT {Q : Prop} {d : Decidable Q} (h : Q) : some true = some (@decide Q d) := by rw [decide_eq_true h]
theorem dI {P Q : Prop} {d : Decidable P} {d' : Decidable Q} (h : P ↔ Q) : some (@decide P d) = some (@decide Q d') := by
 by_cases hp : P
 ·rw [decide_eq_true hp, decide_eq_true (h.1 hp)]
 ·rw [decide_eq_false hp, decide_eq_false (fun q => hp (h.2 q))]
theorem deq {p : Prop} {d : Decidable p} : (@decide p d = true) = p := by simp
theorem dT' {Q : Prop} {d : Decidable Q} (h : Q) : some (@decide Q d) = some true := (dT h).symm
theorem bind_some' {α : Type} (x : Option α) : (x.bind fun r => some r) = x := by cases x <;> rfl
theorem strsOk_of {l : List Str} (h : Gd.ok l) : StrsOk l := ⟨Nat.le_trans h.1 (by decide), fun x hx => Nat.le_trans (h.2 x hx).1 (by decide)⟩
theorem putsOk_of {l : List (Int × Str)} (h : Gd.ok l) : PutsOk l := ⟨Nat.le_trans h.1 (by decide), fun x hx => Nat.le_trans (h.2 x hx).2.1 (by decide)⟩
theorem subL_from {α : Type} (s : List α) (k : Nat) (h : k ≤ s.length) : subL s (some (k : Int)) none = some (s.drop k) := by
 simp [subL, bound, h]
theorem subL_to {α : Type} (s : List α) (k : Nat) (h : k ≤ s.length) : subL s none (some (k : Int)) = some (s.take k) := by
 simp [subL, bound, h]
theorem subL_mid {α : Type} (s : List α) (a b : Nat) (h : a ≤ b) (h' : b ≤ s.length) : subL s (some (a : Int)) (some (b : Int)) = some ((s.take b).drop a) := by
 simp [subL, bound, h, h']
theorem map_v (l : Str) : (l.map Bt.mk).map Bt.v = l := by
 rw [List.map_map]
 have : (Bt.v ∘ Bt.mk) = id := rfl
 rw [this, List.map_id]
end Go.Proofs.TM
namespace Go.Proofs.TM
open Go Go.Proofs
set_option linter.unusedVariables false
set_option linter.unusedSimpArgs false
set_option maxHeartbeats 1000000
theorem l00In_out (n a b : Int) : spec_l00In n a b = some (decide (a ≤ n ∧ n ≤ b)) := by
 unfold spec_l00In; by_cases h : n ≥ a
 ·rw [if_pos h]; have : a ≤ n := h; simp [this]
 ·rw [if_neg h]; have : ¬a ≤ n := h; simp [this]
theorem within_out (n a b : Int) : impl_within n a b = some (decide (a ≤ n ∧ n ≤ b)) := l00In_out n a b
def DiskV (d : DDisk) : Prop := 16 ≤ (d.1.length : Int) ∧ (d.1.length : Int) ≤ 256 ∧ (d.2.1.length : Int) ≤ 600 ∧ -1 ≤ d.2.2.1 ∧ d.2.2.1 ≤ 100000 ∧ (∀ x ∈ d.1, x.length = 64) ∧ ∀ p ∈ d.2.1, 0 ≤ p.1 ∧ p.1 ≤ (d.1.length : Int) - 1 ∧ p.2.length = 64
open Classical in
theorem l09Ok_out (d : DDisk) : spec_l09Ok d = some (decide (DiskV d)) := by
 unfold spec_l09Ok
 rw [l00In_out, Option.bind_some]
 by_cases h1 : 16 ≤ (d.1.length : Int) ∧ (d.1.length : Int) ≤ 256
 case neg => rw [if_pos (by simp [h1])]; exact dF fun h => h1 ⟨h.1, h.2.1⟩
 rw [if_neg (by simp [h1])]
 by_cases h2 : (d.2.1.length : Int) > 600
 case pos => rw [if_pos h2]; exact dF fun h => by have := h.2.2.1; omega
 rw [if_neg h2, l00In_out, Option.bind_some]
 by_cases h3 : -1 ≤ d.2.2.1 ∧ d.2.2.1 ≤ 100000
 case neg => rw [if_pos (by simp [h3])]; exact dF fun h => h3 ⟨h.2.2.2.1, h.2.2.2.2.1⟩
 rw [if_neg (by simp [h3])]
 unfold spec_l09Ok_l1
 rw [loop_mem d.1 (fun x => x.length = 64) (fun s => spec_l09Ok_l1_b d.1 d.2.1 d.2.2.1 d.2.2.2 d.1.length s) (.inl (d.1, d.2.1, d.2.2.1, d.2.2.2, (d.1.length : Int))) (.inr false) (fun i x hi hx hp => by
   have hx' := (List.getElem?_eq_some_iff.1 hx).2
   have hp' : (x.length : Int) = 64 := by omega
   simp [spec_l09Ok_l1_b, hi, hx', hp', w1 (show i < 9223372036854775807 by omega)]) (fun i x hi hx hp => by
   have hx' := (List.getElem?_eq_some_iff.1 hx).2
   have hp' : ¬(x.length : Int) = 64 := by omega
   simp [spec_l09Ok_l1_b, hi, hx', hp']) (by simp [spec_l09Ok_l1_b])]
 by_cases h4 : ∀ x ∈ d.1, x.length = 64
 case neg => rw [if_neg h4]; exact dF fun h => h4 h.2.2.2.2.2.1
 rw [if_pos h4]
 simp only [Option.bind_some, Sum.elim_inl]
 unfold spec_l09Ok_l2
 rw [loop_mem d.2.1 (fun p => 0 ≤ p.1 ∧ p.1 ≤ (d.1.length : Int) - 1 ∧ p.2.length = 64) (fun s => spec_l09Ok_l2_b d.1 d.2.1 d.2.2.1 d.2.2.2 d.1.length s) (.inl ()) (.inr false) (fun i x hi hx hp => by
   have hx' := (List.getElem?_eq_some_iff.1 hx).2
   have hp' : (x.2.length : Int) = 64 := by omega
   simp [spec_l09Ok_l2_b, hi, hx', hp', hp.1, hp.2.1, l00In_out, wrap_in (show -9223372036854775808 ≤ (d.1.length : Int) - 1 by omega) (by omega), w1 (show i < 9223372036854775807 by omega)]) (fun i x hi hx hp => by
   have hx' := (List.getElem?_eq_some_iff.1 hx).2
   simp [spec_l09Ok_l2_b, hi, hx', l00In_out, wrap_in (show -9223372036854775808 ≤ (d.1.length : Int) - 1 by omega) (by omega)]
   by_cases hq : 0 ≤ x.1 ∧ x.1 ≤ (d.1.length : Int) - 1
   ·have hp' : ¬(x.2.length : Int) = 64 := fun h => hp ⟨hq.1, hq.2, by omega⟩
    simp [hq.1, hq.2, hp']
   ·intro a b; exact absurd ⟨a, b⟩ hq) (by simp [spec_l09Ok_l2_b])]
 by_cases h5 : ∀ p ∈ d.2.1, 0 ≤ p.1 ∧ p.1 ≤ (d.1.length : Int) - 1 ∧ p.2.length = 64
 ·rw [if_pos h5]; exact dT ⟨h1.1, h1.2, by omega, h3.1, h3.2, h4, h5⟩
 ·rw [if_neg h5]; exact dF fun h => h5 h.2.2.2.2.2.2
open Classical in
theorem ValidDisk_out (d : DDisk) : impl_ValidDisk d = some (decide (DiskV d)) := by
 unfold impl_ValidDisk
 rw [within_out, Option.bind_some]
 by_cases h1 : 16 ≤ (d.1.length : Int) ∧ (d.1.length : Int) ≤ 256
 case neg => rw [if_pos (by simp [h1])]; exact dF fun h => h1 ⟨h.1, h.2.1⟩
 rw [if_neg (by simp [h1])]
 by_cases h2 : (d.2.1.length : Int) > 600
 case pos => rw [if_pos h2]; exact dF fun h => by have := h.2.2.1; omega
 rw [if_neg h2, within_out, Option.bind_some]
 by_cases h3 : -1 ≤ d.2.2.1 ∧ d.2.2.1 ≤ 100000
 case neg => rw [if_pos (by simp [h3])]; exact dF fun h => h3 ⟨h.2.2.2.1, h.2.2.2.2.1⟩
 rw [if_neg (by simp [h3])]
 unfold slices_ContainsFunc_string_string__ValidDisk_c1 slices_IndexFunc_string_string__ValidDisk_c1 slices_IndexFunc_string_string__ValidDisk_c1_l1
 obtain ⟨r, hr, hx⟩ := loop_find d.1 (fun x => x.length = 64) (fun s => slices_IndexFunc_string_string__ValidDisk_c1_l1_b d.1 d.1.length s) () (fun i x hi hx hp => by
   have hx' := (List.getElem?_eq_some_iff.1 hx).2
   have hp' : (x.length : Int) = 64 := by omega
   simp [slices_IndexFunc_string_string__ValidDisk_c1_l1_b, impl_ValidDisk_c1, impl_isBlock, hi, hx', hp', w1 (show i < 9223372036854775807 by omega)]) (fun i x hi hx hp => by
   have hx' := (List.getElem?_eq_some_iff.1 hx).2
   have hp' : ¬(x.length : Int) = 64 := by omega
   simp [slices_IndexFunc_string_string__ValidDisk_c1_l1_b, impl_ValidDisk_c1, impl_isBlock, hi, hx', hp']) (by simp [slices_IndexFunc_string_string__ValidDisk_c1_l1_b])
 rw [hr]
 rcases hx with ⟨rfl, h4⟩ | ⟨k, rfl, hk, h4⟩
 case inr => simp [hk]; exact fun h => h4 h.2.2.2.2.2.1
 simp only [Option.bind_some, Sum.elim_inl]
 rw [if_neg (by simp)]
 unfold slices_ContainsFunc_impl_Put_impl_Put__ValidDisk_c2 slices_IndexFunc_impl_Put_impl_Put__ValidDisk_c2 slices_IndexFunc_impl_Put_impl_Put__ValidDisk_c2_l1
 obtain ⟨r, hr, hx⟩ := loop_find d.2.1 (fun p => 0 ≤ p.1 ∧ p.1 ≤ (d.1.length : Int) - 1 ∧ p.2.length = 64) (fun s => slices_IndexFunc_impl_Put_impl_Put__ValidDisk_c2_l1_b d.2.1 d.1 d.2.1 d.2.2.1 d.2.2.2 d.2.1.length s) () (fun i x hi hx hp => by
   have hx' := (List.getElem?_eq_some_iff.1 hx).2
   have hp' : (x.2.length : Int) = 64 := by omega
   simp [slices_IndexFunc_impl_Put_impl_Put__ValidDisk_c2_l1_b, impl_ValidDisk_c2, impl_isIndex, within_out, impl_isBlock, hi, hx', hp', hp.1, hp.2.1, wrap_in (show -9223372036854775808 ≤ (d.1.length : Int) - 1 by omega) (by omega), w1 (show i < 9223372036854775807 by omega)]) (fun i x hi hx hp => by
   have hx' := (List.getElem?_eq_some_iff.1 hx).2
   simp [slices_IndexFunc_impl_Put_impl_Put__ValidDisk_c2_l1_b, impl_ValidDisk_c2, impl_isIndex, within_out, impl_isBlock, hi, hx', wrap_in (show -9223372036854775808 ≤ (d.1.length : Int) - 1 by omega) (by omega)]
   by_cases hq : 0 ≤ x.1 ∧ x.1 ≤ (d.1.length : Int) - 1
   ·have hp' : ¬(x.2.length : Int) = 64 := fun h => hp ⟨hq.1, hq.2, by omega⟩
    simp [hq.1, hq.2, hp']
   ·intro a b; exact absurd ⟨a, b⟩ hq) (by simp [slices_IndexFunc_impl_Put_impl_Put__ValidDisk_c2_l1_b])
 rw [hr]
 rcases hx with ⟨rfl, h5⟩ | ⟨k, rfl, hk, h5⟩
 ·simp; exact ⟨h1.1, h1.2, by omega, h3.1, h3.2, h4, h5⟩
 ·simp [hk]; exact fun h => h5 h.2.2.2.2.2.2
end Go.Proofs.TM
namespace Go.Proofs.TM
open Go Go.Proofs
set_option linter.unusedVariables false
set_option linter.unusedSimpArgs false
set_option maxHeartbeats 1000000
def SuperV (s : DSuper) : Prop := 16 ≤ s.1 ∧ s.1 ≤ 256 ∧ 8 ≤ s.2.1 ∧ s.2.1 ≤ 64 ∧ s.2.1 ≤ s.1 - 4 ∧ 0 ≤ s.2.2.1 ∧ s.2.2.1 ≤ 1000000000000 ∧ 0 ≤ s.2.2.2 ∧ s.2.2.2 ≤ 1000000000000
open Classical in
theorem sValidSuper_out (s : DSuper) : spec_ValidSuper s = some (decide (SuperV s)) := by
 unfold spec_ValidSuper SuperV
 simp only [l00In_out, Option.bind_some, decide_eq_true_eq]
 by_cases h1 : 16 ≤ s.1 ∧ s.1 ≤ 256
 case neg => rw [if_neg h1]; exact dF fun h => h1 ⟨h.1, h.2.1⟩
 rw [if_pos h1, wrap_in (by omega) (by omega)]
 split
 ·split
  ·split
   ·exact dI (by omega)
   ·exact dF (by omega)
  ·exact dF (by omega)
 ·exact dF (by omega)
open Classical in
theorem iValidSuper_out (s : DSuper) : impl_ValidSuper s = some (decide (SuperV s)) := by
 unfold impl_ValidSuper SuperV
 simp only [within_out, Option.bind_some, decide_eq_true_eq]
 by_cases h1 : 16 ≤ s.1 ∧ s.1 ≤ 256
 case neg => rw [if_neg h1]; exact dF fun h => h1 ⟨h.1, h.2.1⟩
 rw [if_pos h1, wrap_in (by omega) (by omega)]
 split
 ·split
  ·exact dI (by omega)
  ·exact dF (by omega)
 ·exact dF (by omega)
end Go.Proofs.TM
namespace Go.Proofs.TM
open Go Go.Proofs
set_option linter.unusedVariables false
set_option linter.unusedSimpArgs false
set_option maxHeartbeats 1000000
theorem repeatL_zero (c : Nat) : Lib.repeatL [0] c = List.replicate c 0 := by
 induction c with
 | zero => rfl
 | succ c ih => simp [Lib.repeatL, ih, List.replicate_succ]
theorem zeros_out (n : Nat) (h : n ≤ 1048576) : impl_zeros n = some (List.replicate n 0) := by
 unfold impl_zeros strings_Repeat repS
 rw [if_pos ⟨by omega, by omega, by simp; omega⟩, Option.bind_some, Int.toNat_natCast, repeatL_zero]
theorem l01Pad_out (s : Str) (n : Nat) (hs : s.length ≤ n) (h : n ≤ 1048576) : spec_l01Pad s n = some (s ++ List.replicate (n - s.length) 0) := by
 unfold spec_l01Pad
 by_cases hc : (s.length : Int) ≥ n
 ·rw [if_pos hc, show n - s.length = 0 by omega]; simp
 ·rw [if_neg hc, wrap_in (by omega) (by omega), show (n : Int) - (s.length : Int) = ((n - s.length : Nat) : Int) by omega, mkL_ok 1 _ _ (by unfold maxRow; omega) (by unfold maxRow; omega), Option.bind_some, if_pos (by simp; omega)]
  simp
theorem padded_out (s : Str) (n : Nat) (hs : s.length ≤ n) (h : n ≤ 1048576) : impl_padded s n = some (s ++ List.replicate (n - s.length) 0) := by
 unfold impl_padded
 rw [wrap_in (by omega) (by omega), show (n : Int) - (s.length : Int) = ((n - s.length : Nat) : Int) by omega, zeros_out _ (by omega), Option.bind_some, if_pos (by simp; omega)]
end Go.Proofs.TM
namespace Go.Proofs.TM
open Go Go.Proofs
set_option linter.unusedVariables false
set_option linter.unusedSimpArgs false
set_option maxHeartbeats 1000000
theorem loop_build {β : Type} (n : Nat) (g : Nat → β) (f : List β × Int → Option ((List β × Int) ⊕ List β))
  (h1 : ∀ i : Nat, i < n → f ((List.range i).map g, (i : Int)) = some (.inl ((List.range (i + 1)).map g, (i : Int) + 1)))
  (h2 : f ((List.range n).map g, (n : Int)) = some (.inr ((List.range n).map g))) : loopO f ([], 0) = some ((List.range n).map g) := by
 refine loop_some n (fun i s => s = ((List.range i).map g, (i : Int))) (fun i s hi hs => ?_) n 0 _ (by omega) rfl
 subst hs
 by_cases hn : i < n
 ·exact .inr ⟨hn, _, h1 i hn, by simp⟩
 ·have : i = n := by omega
  subst this; exact .inl h2
theorem loop_fill {β : Type} (n : Nat) (g : Nat → β) (f : List β × Int → Option ((List β × Int) ⊕ List β)) (m : List β) (hm : m.length = n)
  (h1 : ∀ (m : List β) (i : Nat), i < n → m.length = n → f (m, (i : Int)) = some (.inl (m.set i (g i), (i : Int) + 1)))
  (h2 : ∀ m : List β, m.length = n → f (m, (n : Int)) = some (.inr m)) : loopO f (m, 0) = some ((List.range n).map g) := by
 refine loop_some n (fun i s => s.2 = (i : Int) ∧ s.1.length = n ∧ ∀ j, j < i → s.1[j]? = some (g j)) (fun i s hi hs => ?_) n 0 _ (by omega) ⟨rfl, hm, fun j hj => by omega⟩
 obtain ⟨m, k⟩ := s
 obtain ⟨rfl, hml, hall⟩ := hs
 simp only at hml hall ⊢
 by_cases hn : i < n
 ·refine .inr ⟨hn, _, h1 m i hn hml, by simp, by simp [hml], fun j hj => ?_⟩
  by_cases hji : j = i
  ·subst hji; simp only; rw [List.getElem?_set_self (by omega)]
  ·simp only; rw [List.getElem?_set_ne (by omega)]; exact hall j (by omega)
 ·have : i = n := by omega
  subst this
  refine .inl ?_
  rw [h2 m hml]
  congr 2
  apply List.ext_getElem?
  intro j
  by_cases hj : j < i
  ·rw [hall j hj]; simp [hj]
  ·rw [List.getElem?_eq_none (by omega), List.getElem?_eq_none (by simp; omega)]
theorem u8_wrap_eq (y : Int) : IntKind.u8.wrap y = y % 256 := by simp [IntKind.wrap, IntKind.bits, IntKind.signed]
theorem u64_wrap_in {y : Int} (h : 0 ≤ y) (h' : y < 18446744073709551616) : IntKind.u64.wrap y = y := by simp [IntKind.wrap, IntKind.bits, IntKind.signed]; omega
theorem and255 (y : Int) (h : -9223372036854775808 ≤ y) (h' : y ≤ 9223372036854775807) : bitV .and .i64 y 255 = y % 256 := by
 have e : ((BitVec.ofInt 64 y &&& BitVec.ofInt 64 255).toNat : Int) = y % 256 := by
  rw [BitVec.toNat_and, BitVec.toNat_ofInt, BitVec.toNat_ofInt]
  have : ((255 : Int) % ((2 ^ 64 : Nat) : Int)).toNat = 2 ^ 8 - 1 := by decide
  rw [this, Nat.and_two_pow_sub_one_eq_mod]
  omega
 show (bitsI .and .i64 y 255).getD 0 = _
 show IntKind.i64.wrap ((BitVec.ofInt 64 y &&& BitVec.ofInt 64 255).toNat : Int) = _
 rw [e]
 exact wrap_in (by omega) (by omega)
def byB (n : Int) (j : Nat) : Bt := ⟨UInt8.ofNat ((shrV .i64 n (8 * (j : Int))) % 256).toNat⟩
def leB (n : Int) (k : Nat) : Str := (List.range k).map fun j => (byB n j).v
@[simp] theorem leB_length (n : Int) (k : Nat) : (leB n k).length = k := by simp [leB]
theorem leB_map (n : Int) (k : Nat) : ((List.range k).map (byB n)).map Bt.v = leB n k := by simp [leB, Function.comp_def]
theorem shr_in {n : Int} (c : Int) (h : -9223372036854775808 ≤ n) (h' : n ≤ 9223372036854775807) : -9223372036854775808 ≤ shrV .i64 n c ∧ shrV .i64 n c ≤ 9223372036854775807 := by
 unfold shrV
 rw [Int.fdiv_eq_ediv_of_nonneg _ (by exact Int.pow_nonneg (by omega))]
 have hp : (0 : Int) < 2 ^ (min c.toNat (IntKind.bits .i64)) := Int.pow_pos (by omega)
 generalize (2 : Int) ^ (min c.toNat (IntKind.bits .i64)) = p at hp
 constructor
 ·rcases Int.lt_or_le n 0 with h0 | h0
  ·exact Int.le_ediv_of_mul_le hp (by omega)
  ·exact Int.le_trans (by omega) (Int.ediv_nonneg h0 (by omega))
 ·rcases Int.lt_or_le n 0 with h0 | h0
  ·have := Int.ediv_neg_of_neg_of_pos h0 hp
   omega
  ·exact Int.le_trans (Int.ediv_le_self _ h0) h'
end Go.Proofs.TM
namespace Go.Proofs.TM
open Go Go.Proofs
set_option linter.unusedVariables false
set_option linter.unusedSimpArgs false
set_option maxHeartbeats 1000000
theorem l01Bytes_out (n : Int) (k : Nat) (hk : k ≤ 8) (h : -9223372036854775808 ≤ n) (h' : n ≤ 9223372036854775807) : spec_l01Bytes n k = some (leB n k) := by
 unfold spec_l01Bytes spec_l01Bytes_l1
 rw [loop_build k (byB n) (fun s => spec_l01Bytes_l1_b n k s.1 s.2) (fun i hi => ?_) (by simp [spec_l01Bytes_l1_b])]
 ·rw [Option.bind_some, leB_map]
 ·simp only [spec_l01Bytes_l1_b]
  rw [if_pos (by omega), u64_wrap_in (y := (i : Int)) (by omega) (by omega), u64_wrap_in (by omega) (by omega), if_neg (by omega)]
  have hs := shr_in (8 * (i : Int)) h h'
  rw [and255 _ hs.1 hs.2, u8_wrap_eq, show (shrV .i64 n (8 * (i : Int))) % 256 % 256 = (shrV .i64 n (8 * (i : Int))) % 256 by omega]
  unfold appL
  rw [if_pos (by simp [lit, maxRow]; omega), Option.bind_some, w1 (by omega)]
  simp [List.range_succ, lit, byB]
end Go.Proofs.TM
namespace Go.Proofs.TM
open Go Go.Proofs
set_option linter.unusedVariables false
set_option linter.unusedSimpArgs false
set_option maxHeartbeats 1000000
theorem putBytes_out (n : Int) (k : Nat) (hk : k ≤ 8) : impl_putBytes n k = some (leB n k) := by
 unfold impl_putBytes impl_putBytes_l1
 rw [mkL_ok 1 _ _ (by unfold maxRow; omega) (by unfold maxRow; omega), Option.bind_some]
 rw [loop_fill k (byB n) (fun s => impl_putBytes_l1_b n _ s.1 s.2) _ (by simp) (fun m i hi hm => ?_) (fun m hm => ?_)]
 ·rw [Option.bind_some, leB_map]
 ·simp only [impl_putBytes_l1_b]
  obtain ⟨x, hx⟩ := get_at (l := m) (by omega : i < m.length)
  rw [List.length_replicate, if_pos (by omega), wrap_in (n := 8 * (i : Int)) (by omega) (by omega), if_neg (by omega), if_pos (by omega), Int.toNat_natCast, hx, Option.bind_some, w1 (by omega), u8_wrap_eq]
  rfl
 ·simp only [impl_putBytes_l1_b]
  rw [List.length_replicate, if_neg (by omega)]
end Go.Proofs.TM
namespace Go.Proofs.TM
open Go Go.Proofs
set_option linter.unusedVariables false
set_option linter.unusedSimpArgs false
set_option maxHeartbeats 1000000
def halfS (s : DSuper) : Str := [65, 82, 82, 83] ++ leB 1 1 ++ leB s.1 2 ++ leB s.2.1 2 ++ leB s.2.2.1 8 ++ leB s.2.2.2 8 ++ List.replicate 7 0
def encS (s : DSuper) : Str := halfS s ++ halfS s
theorem halfS_length (s : DSuper) : (halfS s).length = 32 := by simp [halfS]
theorem encS_length (s : DSuper) : (encS s).length = 64 := by simp [encS, halfS_length]
def SIn (s : DSuper) : Prop := (-9223372036854775808 ≤ s.1 ∧ s.1 ≤ 9223372036854775807) ∧ (-9223372036854775808 ≤ s.2.1 ∧ s.2.1 ≤ 9223372036854775807) ∧ (-9223372036854775808 ≤ s.2.2.1 ∧ s.2.2.1 ≤ 9223372036854775807) ∧ (-9223372036854775808 ≤ s.2.2.2 ∧ s.2.2.2 ≤ 9223372036854775807)
theorem l10Encode_out (s : DSuper) (h : SIn s) : spec_l10Encode s = some (encS s) := by
 obtain ⟨⟨a, b⟩, ⟨c, d⟩, ⟨e, f⟩, g, i⟩ := h
 unfold spec_l10Encode
 have k1 : spec_l01Bytes 1 1 = some (leB 1 1) := l01Bytes_out 1 1 (by omega) (by omega) (by omega)
 have k2 : spec_l01Bytes s.1 2 = some (leB s.1 2) := l01Bytes_out s.1 2 (by omega) a b
 have k3 : spec_l01Bytes s.2.1 2 = some (leB s.2.1 2) := l01Bytes_out s.2.1 2 (by omega) c d
 have k4 : spec_l01Bytes s.2.2.1 8 = some (leB s.2.2.1 8) := l01Bytes_out s.2.2.1 8 (by omega) e f
 have k5 : spec_l01Bytes s.2.2.2 8 = some (leB s.2.2.2 8) := l01Bytes_out s.2.2.2 8 (by omega) g i
 rw [k1, Option.bind_some, if_pos (by simp), k2, Option.bind_some, if_pos (by simp), k3, Option.bind_some, if_pos (by simp), k4, Option.bind_some, if_pos (by simp), k5, Option.bind_some]
 have k6 : spec_l01Pad ([65, 82, 82, 83] ++ leB 1 1 ++ leB s.1 2 ++ leB s.2.1 2 ++ leB s.2.2.1 8 ++ leB s.2.2.2 8) 32 = some (halfS s) := l01Pad_out ([65, 82, 82, 83] ++ leB 1 1 ++ leB s.1 2 ++ leB s.2.1 2 ++ leB s.2.2.1 8 ++ leB s.2.2.2 8) 32 (by simp) (by omega)
 rw [if_pos (by simp), k6, Option.bind_some, if_pos (by simp [halfS_length])]
 rfl
theorem encode_out (s : DSuper) : impl_Super_encode s = some (encS s) := by
 unfold impl_Super_encode
 have k1 : impl_putBytes 1 1 = some (leB 1 1) := putBytes_out 1 1 (by omega)
 have k2 : impl_putBytes s.1 2 = some (leB s.1 2) := putBytes_out s.1 2 (by omega)
 have k3 : impl_putBytes s.2.1 2 = some (leB s.2.1 2) := putBytes_out s.2.1 2 (by omega)
 have k4 : impl_putBytes s.2.2.1 8 = some (leB s.2.2.1 8) := putBytes_out s.2.2.1 8 (by omega)
 have k5 : impl_putBytes s.2.2.2 8 = some (leB s.2.2.2 8) := putBytes_out s.2.2.2 8 (by omega)
 rw [k1, Option.bind_some, if_pos (by simp), k2, Option.bind_some, if_pos (by simp), k3, Option.bind_some, if_pos (by simp), k4, Option.bind_some, if_pos (by simp), k5, Option.bind_some]
 have k6 : impl_padded ([65, 82, 82, 83] ++ leB 1 1 ++ leB s.1 2 ++ leB s.2.1 2 ++ leB s.2.2.1 8 ++ leB s.2.2.2 8) 32 = some (halfS s) := padded_out ([65, 82, 82, 83] ++ leB 1 1 ++ leB s.1 2 ++ leB s.2.1 2 ++ leB s.2.2.1 8 ++ leB s.2.2.2 8) 32 (by simp) (by omega)
 rw [if_pos (by simp), k6, Option.bind_some, if_pos (by simp [halfS_length])]
 rfl
theorem SuperV.sin {s : DSuper} (h : SuperV s) : SIn s := by
 obtain ⟨a1, a2, a3, a4, a5, a6, a7, a8, a9⟩ := h
 exact ⟨⟨by omega, by omega⟩, ⟨by omega, by omega⟩, ⟨by omega, by omega⟩, by omega, by omega⟩
end Go.Proofs.TM
namespace Go.Proofs.TM
open Go Go.Proofs
set_option linter.unusedVariables false
set_option linter.unusedSimpArgs false
set_option maxHeartbeats 1000000
theorem loopO_inl {σ ρ : Type} {f : σ → Option (σ ⊕ ρ)} {s s' : σ} (h : f s = some (.inl s')) : loopO f s = loopO f s' := by rw [loopO_unfold, h]; rfl
theorem loopO_inr {σ ρ : Type} {f : σ → Option (σ ⊕ ρ)} {s : σ} {r : ρ} (h : f s = some (.inr r)) : loopO f s = some r := by rw [loopO_unfold, h]; rfl
def leN : Str → Nat
 | [] => 0
 | b :: s => b.toNat + 256 * leN s
theorem leN_lt : ∀ s : Str, leN s < 256 ^ s.length
 | [] => by simp [leN]
 | b :: s => by
  have := leN_lt s
  have hb : b.toNat < 256 := b.toNat_lt
  simp only [leN, List.length_cons, Nat.pow_succ]
  omega
theorem leN_append : ∀ (s t : Str), leN (s ++ t) = leN s + 256 ^ s.length * leN t
 | [], t => by simp [leN]
 | b :: s, t => by
  simp only [List.cons_append, leN, leN_append s t, List.length_cons, Nat.pow_succ, Nat.mul_add]
  rw [show 256 ^ s.length * 256 * leN t = 256 * (256 ^ s.length * leN t) by rw [Nat.mul_comm (256 ^ s.length) 256, Nat.mul_assoc]]
  omega
theorem leN_drop_le (s : Str) (j : Nat) : leN (s.drop j) ≤ leN s := by
 induction s generalizing j with
 | nil => simp
 | cons b s ih =>
  cases j with
  | zero => simp
  | succ j =>
   have := ih j
   simp only [List.drop_succ_cons, leN]; omega
theorem pow256 (i : Nat) : (2 : Int) ^ (8 * i) = ((256 ^ i : Nat) : Int) := by
 rw [Int.pow_mul]; simp
theorem p256_lt {i : Nat} (h : i < 8) : 256 * 256 ^ i ≤ 18446744073709551616 := by
 have : 256 ^ i ≤ 256 ^ 7 := Nat.pow_le_pow_right (by omega) (by omega)
 have : (256 : Nat) ^ 7 = 72057594037927936 := by decide
 omega
theorem or_u64 (x b i : Nat) (hx : x < 256 ^ i) (hb : b < 256) (hi : i < 8) : bitV .or .u64 (x : Int) (shlV .u64 (b : Int) (8 * (i : Int))) = ((x + 256 ^ i * b : Nat) : Int) := by
 have hp := p256_lt hi
 have hbm : 256 ^ i * b ≤ 256 ^ i * 255 := Nat.mul_le_mul_left _ (by omega)
 have e1 : shlV .u64 (b : Int) (8 * (i : Int)) = ((256 ^ i * b : Nat) : Int) := by
  unfold shlV
  rw [show min (8 * (i : Int)).toNat (IntKind.bits .u64) = 8 * i by show min (8 * (i : Int)).toNat 64 = _; omega, pow256]
  rw [← Int.natCast_mul, Nat.mul_comm]
  exact u64_wrap_in (by omega) (by omega)
 rw [e1]
 show IntKind.u64.wrap ((BitVec.ofInt 64 (x : Int) ||| BitVec.ofInt 64 ((256 ^ i * b : Nat) : Int)).toNat : Int) = _
 have e2 : (BitVec.ofInt 64 (x : Int) ||| BitVec.ofInt 64 ((256 ^ i * b : Nat) : Int)).toNat = x + 256 ^ i * b := by
  rw [BitVec.toNat_or, BitVec.toNat_ofInt, BitVec.toNat_ofInt]
  rw [show (((x : Nat) : Int) % ((2 ^ 64 : Nat) : Int)).toNat = x by omega, show (((256 ^ i * b : Nat) : Int) % ((2 ^ 64 : Nat) : Int)).toNat = 256 ^ i * b by omega]
  have h2 : (256 : Nat) ^ i = 2 ^ (8 * i) := by rw [Nat.pow_mul]
  rw [h2] at hx ⊢
  rw [Nat.or_comm, ← Nat.two_pow_add_eq_or_of_lt hx]
  omega
 rw [e2]
 exact u64_wrap_in (by omega) (by omega)
theorem getBits_out (s : Str) (h : s.length ≤ 8) : impl_getBits s = some (leN s : Int) := by
 unfold impl_getBits impl_getBits_l1
 rw [loop_some (f := fun t => impl_getBits_l1_b s s.length t.1 t.2) (r := (leN s : Int)) s.length (fun i t => t = ((leN (s.take i) : Int), (i : Int))) (fun i t hi ht => ?_) s.length 0 _ (by omega) (by simp [leN])]
 ·rfl
 ·subst ht
  simp only [impl_getBits_l1_b]
  by_cases hn : i < s.length
  ·obtain ⟨b, hb⟩ := get_at hn
   rw [if_pos (by omega), if_pos (by omega), Int.toNat_natCast, hb, Option.bind_some, wrap_in (n := 8 * (i : Int)) (by omega) (by omega), if_neg (by omega), u64_wrap_in (by omega) (by have := b.toNat_lt; omega)]
   refine .inr ⟨hn, _, rfl, ?_⟩
   have ht : s.take (i + 1) = s.take i ++ [b] := by rw [List.take_add_one, hb]; rfl
   have hl : (s.take i).length = i := by simp; omega
   have hlt := leN_lt (s.take i)
   rw [hl] at hlt
   rw [or_u64 _ _ _ hlt b.toNat_lt (by omega), ht, leN_append, hl, w1 (by omega)]
   simp [leN]
  ·have : i = s.length := by omega
   subst this
   rw [if_neg (by omega), List.take_length]
   exact .inl rfl
theorem l01GetUint_out (s : Str) (at_ k : Nat) (hk : 1 ≤ k ∧ k ≤ 8) (h : at_ + k ≤ s.length) (hs : s.length ≤ 1048576) :
  spec_l01GetUint s at_ k = some (if leN ((s.drop at_).take k) < 9223372036854775808 then ((leN ((s.drop at_).take k) : Int), true) else (0, false)) := by
 have hpl : ((s.drop at_).take k).length = k := by simp; omega
 have hget : ∀ j, j < k → s[at_ + j]? = ((s.drop at_).take k)[j]? := fun j hj => by rw [List.getElem?_take, if_pos hj, List.getElem?_drop]
 generalize hp : (s.drop at_).take k = p at hpl hget
 have loop : leN p < 9223372036854775808 → spec_l01GetUint_p1 s at_ k = some ((leN p : Int), true) := fun hlt => by
  unfold spec_l01GetUint_p1 spec_l01GetUint_l2
  rw [wrap_in (by omega) (by omega)]
  rw [loop_some (f := fun t => spec_l01GetUint_l2_b s at_ t.1 t.2) (r := (leN p : Int)) k (fun i t => t = ((leN (p.drop (k - i)) : Int), (k : Int) - 1 - i)) (fun i t hi ht => ?_) k 0 _ (by omega) (by rw [List.drop_of_length_le (by omega)]; simp [leN])]
  ·rfl
  ·subst ht
   simp only [spec_l01GetUint_l2_b]
   by_cases hn : i < k
   ·obtain ⟨b, hb⟩ := get_at (l := p) (i := k - 1 - i) (by omega)
    have hd : p.drop (k - (i + 1)) = b :: p.drop (k - i) := by
     rw [show k - (i + 1) = k - 1 - i by omega, show k - i = k - 1 - i + 1 by omega]
     rw [List.drop_eq_getElem_cons (by omega)]
     congr 1
     rw [List.getElem?_eq_getElem (by omega)] at hb
     exact Option.some.inj hb
    have hle := leN_drop_le p (k - (i + 1))
    have e : leN (p.drop (k - (i + 1))) = b.toNat + 256 * leN (p.drop (k - i)) := by rw [hd]; rfl
    have hbl := b.toNat_lt
    rw [if_pos (by omega), wrap_in (n := (at_ : Int) + _) (by omega) (by omega), if_pos (by omega), show ((at_ : Int) + ((k : Int) - 1 - i)).toNat = at_ + (k - 1 - i) by omega, hget _ (by omega), hb, Option.bind_some]
    rw [wrap_in (n := (b.toNat : Int)) (by omega) (by omega), wrap_in (n := _ * 256) (by omega) (by omega), wrap_in (by omega) (by omega), wrap_in (by omega) (by omega)]
    refine .inr ⟨hn, _, rfl, ?_⟩
    rw [e]
    simp only [Prod.mk.injEq]
    omega
   ·have : i = k := by omega
    subst this
    rw [if_neg (by omega)]
    simp
 unfold spec_l01GetUint spec_l01Within
 simp only [l00In_out, Option.bind_some, decide_eq_true_eq]
 rw [if_pos (by omega), if_pos (by omega), Option.bind_some, wrap_in (by omega) (by omega), if_neg (by simp; omega)]
 by_cases h8 : (k : Int) = 8
 ·rw [if_pos h8, wrap_in (by omega) (by omega), if_pos (by omega)]
  obtain ⟨b, hb⟩ := get_at (l := p) (i := 7) (by omega)
  rw [show ((at_ : Int) + 7).toNat = at_ + 7 by omega, hget 7 (by omega), hb, Option.bind_some]
  have hsp : p = p.take 7 ++ [b] := by
   have h1 : p.take (7 + 1) = p.take 7 ++ [b] := by rw [List.take_add_one, hb]; rfl
   rw [List.take_of_length_le (by omega)] at h1
   exact h1
  have hv : leN p = leN (p.take 7) + 72057594037927936 * b.toNat := by
   conv => lhs; rw [hsp]
   rw [leN_append, show (p.take 7).length = 7 by simp; omega]
   simp [leN]
  have hlt := leN_lt (p.take 7)
  rw [show (p.take 7).length = 7 by simp; omega] at hlt
  have h256 : (256 : Nat) ^ 7 = 72057594037927936 := by decide
  by_cases hb7 : (b.toNat : Int) > 127
  ·rw [if_pos hb7, if_neg (by omega)]
  ·rw [if_neg hb7, loop (by omega), Option.bind_some, if_pos (by omega)]
 ·have hlt := leN_lt p
  rw [hpl] at hlt
  have : (256 : Nat) ^ k ≤ 256 ^ 7 := Nat.pow_le_pow_right (by omega) (by omega)
  have h256 : (256 : Nat) ^ 7 = 72057594037927936 := by decide
  rw [if_neg h8, loop (by omega), Option.bind_some, if_pos (by omega)]
end Go.Proofs.TM
namespace Go.Proofs.TM
open Go Go.Proofs
set_option linter.unusedVariables false
set_option linter.unusedSimpArgs false
set_option maxHeartbeats 1000000
theorem loop_back {α ρ : Type} (p : α → Bool) (f : Int → Option (Int ⊕ ρ)) (rN : ρ) (rF : α → ρ) (h3 : f (-1) = some (.inr rN)) : ∀ (m : Nat) (l : List α), l.length = m →
  (∀ (i : Nat) x, l[i]? = some x → p x = false → f (i : Int) = some (.inl ((i : Int) - 1))) →
  (∀ (i : Nat) x, l[i]? = some x → p x = true → f (i : Int) = some (.inr (rF x))) →
  loopO f ((m : Int) - 1) = some (match l.reverse.find? p with | some x => rF x | none => rN) := by
 intro m
 induction m with
 | zero =>
  intro l hl h1 h2
  obtain rfl := List.eq_nil_of_length_eq_zero hl
  rw [loopO_unfold, show ((0 : Nat) : Int) - 1 = -1 by omega, h3]; rfl
 | succ m ih =>
  intro l hl h1 h2
  obtain ⟨l', x, rfl⟩ : ∃ l' x, l = l' ++ [x] := by
   have := List.dropLast_concat_getLast (l := l) (by intro h; subst h; simp at hl)
   exact ⟨_, _, this.symm⟩
  have hl' : l'.length = m := by simpa using hl
  have hx : (l' ++ [x])[m]? = some x := by rw [← hl']; simp
  rw [loopO_unfold, show ((m + 1 : Nat) : Int) - 1 = (m : Int) by omega, List.reverse_append]
  simp only [List.reverse_cons, List.reverse_nil, List.nil_append, List.cons_append, List.find?_cons]
  cases hp : p x with
  | true => rw [h2 m x hx hp]; rfl
  | false =>
   rw [h1 m x hx hp]
   simp only [Option.bind_some, Sum.elim_inl]
   refine ih l' hl' (fun i y hy hpy => h1 i y ?_ hpy) (fun i y hy hpy => h2 i y ?_ hpy)
   ·rw [List.getElem?_append_left (List.getElem?_eq_some_iff.1 hy).1]; exact hy
   ·rw [List.getElem?_append_left (List.getElem?_eq_some_iff.1 hy).1]; exact hy
theorem l09Read_out (d : DDisk) (k : Int) (h : d.2.1.length ≤ 1048576) : spec_l09Read d k = readD d k := by
 unfold spec_l09Read spec_l09Read_l1 readD
 rw [wrap_in (by omega) (by omega), if_pos (by omega)]
 rw [loop_back (fun p : Int × Str => decide (p.1 = k)) (fun s => spec_l09Read_l1_b d.1 d.2.1 d.2.2.1 d.2.2.2 k s) (.inl (d.1, d.2.1, d.2.2.1, d.2.2.2, k)) (fun x => .inr x.2) (by simp [spec_l09Read_l1_b]) d.2.1.length d.2.1 rfl (fun i x hx hp => ?_) (fun i x hx hp => ?_)]
 ·rw [Option.bind_some]
  cases hf : d.2.1.reverse.find? (fun p => decide (p.1 = k)) with
  | some p => rfl
  | none =>
   simp only [Sum.elim_inl]
   split
   ·cases d.1[k.toNat]? <;> rfl
   ·rfl
 ·have hi := (List.getElem?_eq_some_iff.1 hx).1
  have hp' : ¬ x.1 = k := by simpa using hp
  simp only [spec_l09Read_l1_b]
  rw [if_pos (by omega), if_pos (by omega), Int.toNat_natCast, hx, Option.bind_some, if_neg hp', wrap_in (by omega) (by omega)]
 ·have hi := (List.getElem?_eq_some_iff.1 hx).1
  have hp' : x.1 = k := by simpa using hp
  simp only [spec_l09Read_l1_b]
  rw [if_pos (by omega), if_pos (by omega), Int.toNat_natCast, hx, Option.bind_some, if_pos hp', if_pos (by omega), Option.bind_some]
def rdD (d : DDisk) (k : Int) : Str := match d.2.1.reverse.find? (fun p => decide (p.1 = k)) with
 | some p => p.2
 | none => d.1.getD k.toNat []
theorem readD_out (d : DDisk) (k : Int) (hd : DiskV d) (h0 : 0 ≤ k) (h1 : k < (d.1.length : Int)) : readD d k = some (rdD d k) ∧ (rdD d k).length = 64 := by
 obtain ⟨a1, a2, a3, a4, a5, a6, a7⟩ := hd
 unfold readD rdD
 rw [if_pos (by omega)]
 cases hf : d.2.1.reverse.find? (fun p => decide (p.1 = k)) with
 | some p =>
  exact ⟨rfl, (a7 p (by have := List.mem_of_find?_eq_some hf; simpa using this)).2.2⟩
 | none =>
  simp only
  rw [if_pos h0]
  obtain ⟨x, hx⟩ := get_at (l := d.1) (i := k.toNat) (by omega)
  rw [List.getD_eq_getElem?_getD, hx]
  exact ⟨rfl, a6 x (List.mem_of_getElem? hx)⟩
end Go.Proofs.TM
