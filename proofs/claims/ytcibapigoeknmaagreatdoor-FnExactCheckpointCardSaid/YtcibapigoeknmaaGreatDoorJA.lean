import Derived.Test.YtcibapigoeknmaaGreatDoorTFun
import Derived.Test.YtcibapigoeknmaaGreatDoorCK3
import Derived.Test.YtcibapigoeknmaaGreatDoorTGlue
namespace Go.Proofs.TM
open Go Go.Proofs
set_option linter.unusedVariables false
set_option linter.unusedSimpArgs false
theorem loop_some {σ ρ : Type} {f : σ → Option (σ ⊕ ρ)} {r : ρ} (n : Nat) (I : Nat → σ → Prop)
  (h : ∀ i s, i ≤ n → I i s → f s = some (.inr r) ∨ (i < n ∧ ∃ s', f s = some (.inl s') ∧ I (i + 1) s')) :
  ∀ k i s, k + i = n → I i s → loopO f s = some r := by
 intro k
 induction k with
 | zero =>
  intro i s hi hs
  rcases h i s (by omega) hs with h1 | ⟨h1, _⟩
  ·rw [loopO_unfold, h1]; rfl
  ·omega
 | succ k ih =>
  intro i s hi hs
  rcases h i s (by omega) hs with h1 | ⟨h1, s', h2, h3⟩
  ·rw [loopO_unfold, h1]; rfl
  ·rw [loopO_unfold, h2]; exact ih (i + 1) s' (by omega) h3
theorem loop_ex {σ ρ : Type} {f : σ → Option (σ ⊕ ρ)} (P : ρ → Prop) (n : Nat) (I : Nat → σ → Prop)
  (h : ∀ i s, i ≤ n → I i s → (∃ r, f s = some (.inr r) ∧ P r) ∨ (i < n ∧ ∃ s', f s = some (.inl s') ∧ I (i + 1) s')) :
  ∀ k i s, k + i = n → I i s → ∃ r, loopO f s = some r ∧ P r := by
 intro k
 induction k with
 | zero =>
  intro i s hi hs
  rcases h i s (by omega) hs with ⟨r, h1, hp⟩ | ⟨h1, _⟩
  ·exact ⟨r, by rw [loopO_unfold, h1]; rfl, hp⟩
  ·omega
 | succ k ih =>
  intro i s hi hs
  rcases h i s (by omega) hs with ⟨r, h1, hp⟩ | ⟨h1, s', h2, h3⟩
  ·exact ⟨r, by rw [loopO_unfold, h1]; rfl, hp⟩
  ·obtain ⟨r, hr, hp⟩ := ih (i + 1) s' (by omega) h3
   exact ⟨r, by rw [loopO_unfold, h2]; exact hr, hp⟩
open Classical in
theorem loop_all {ρ : Type} (n : Nat) (p : Nat → Prop) (f : Int → Option (Int ⊕ ρ)) (rT rF : ρ)
  (h1 : ∀ i : Nat, i < n → p i → f (i : Int) = some (.inl ((i : Int) + 1)))
  (h2 : ∀ i : Nat, i < n → ¬p i → f (i : Int) = some (.inr rF))
  (h3 : f (n : Int) = some (.inr rT)) : loopO f 0 = some (if ∀ i, i < n → p i then rT else rF) := by
 by_cases hp : ∀ i, i < n → p i
 ·rw [if_pos hp]
  refine loop_some n (fun i s => s = (i : Int)) (fun i s hi hs => ?_) n 0 0 (by omega) rfl
  subst hs
  by_cases hn : i < n
  ·exact .inr ⟨hn, _, h1 i hn (hp i hn), by omega⟩
  ·have : i = n := by omega
   subst this; exact .inl h3
 ·rw [if_neg hp]
  refine loop_some n (fun i s => s = (i : Int) ∧ ∀ j, j < i → p j) (fun i s hi hs => ?_) n 0 0 (by omega) ⟨rfl, fun j hj => by omega⟩
  obtain ⟨rfl, hall⟩ := hs
  by_cases hn : i < n
  ·by_cases hpi : p i
   ·refine .inr ⟨hn, _, h1 i hn hpi, by omega, fun j hj => ?_⟩
    by_cases hji : j = i
    ·subst hji; exact hpi
    ·exact hall j (by omega)
   ·exact .inl (h2 i hn hpi)
  ·have : i = n := by omega
   subst this; exact absurd hall hp
theorem all_get {α : Type} {l : List α} {P : α → Prop} : (∀ i, i < l.length → ∀ x, l[i]? = some x → P x) ↔ ∀ x ∈ l, P x := by
 constructor
 ·intro h x hx
  obtain ⟨i, hi, rfl⟩ := List.mem_iff_getElem.1 hx
  exact h i hi _ (List.getElem?_eq_getElem hi)
 ·intro h i hi x hx
  exact h x (List.mem_of_getElem? hx)
open Classical in
theorem loop_mem {α ρ : Type} (l : List α) (p : α → Prop) (f : Int → Option (Int ⊕ ρ)) (rT rF : ρ)
  (h1 : ∀ (i : Nat) x, i < l.length → l[i]? = some x → p x → f (i : Int) = some (.inl ((i : Int) + 1)))
  (h2 : ∀ (i : Nat) x, i < l.length → l[i]? = some x → ¬p x → f (i : Int) = some (.inr rF))
  (h3 : f (l.length : Int) = some (.inr rT)) : loopO f 0 = some (if ∀ x ∈ l, p x then rT else rF) := by
 rw [loop_all l.length (fun i => ∀ x, l[i]? = some x → p x) f rT rF ?_ ?_ h3]
 ·simp only [all_get]
 ·intro i hi hp
  obtain ⟨x, hx⟩ : ∃ x, l[i]? = some x := ⟨_, List.getElem?_eq_getElem hi⟩
  exact h1 i x hi hx (hp x hx)
 ·intro i hi hp
  obtain ⟨x, hx⟩ : ∃ x, l[i]? = some x := ⟨_, List.getElem?_eq_getElem hi⟩
  exact h2 i x hi hx (fun h => hp (fun y hy => by rw [hx] at hy; cases hy; exact h))
theorem loop_find {α ρ : Type} (l : List α) (p : α → Prop) (f : Int → Option (Int ⊕ (ρ ⊕ Int))) (rT : ρ)
  (h1 : ∀ (i : Nat) x, i < l.length → l[i]? = some x → p x → f (i : Int) = some (.inl ((i : Int) + 1)))
  (h2 : ∀ (i : Nat) x, i < l.length → l[i]? = some x → ¬p x → f (i : Int) = some (.inr (.inr (i : Int))))
  (h3 : f (l.length : Int) = some (.inr (.inl rT))) :
  ∃ r, loopO f 0 = some r ∧ ((r = .inl rT ∧ ∀ x ∈ l, p x) ∨ (∃ k : Int, r = .inr k ∧ 0 ≤ k ∧ ¬∀ x ∈ l, p x)) := by
 refine loop_ex _ l.length (fun i s => s = (i : Int) ∧ ∀ j, j < i → ∀ x, l[j]? = some x → p x) (fun i s hi hs => ?_) l.length 0 0 (by omega) ⟨rfl, fun j hj => by omega⟩
 obtain ⟨rfl, hall⟩ := hs
 by_cases hn : i < l.length
 ·obtain ⟨x, hx⟩ : ∃ x, l[i]? = some x := ⟨_, List.getElem?_eq_getElem hn⟩
  by_cases hpi : p x
  ·refine .inr ⟨hn, _, h1 i x hn hx hpi, by omega, fun j hj y hy => ?_⟩
   by_cases hji : j = i
   ·subst hji; rw [hx] at hy; cases hy; exact hpi
   ·exact hall j (by omega) y hy
  ·refine .inl ⟨_, h2 i x hn hx hpi, .inr ⟨i, rfl, by omega, fun h => hpi (h x (List.mem_of_getElem? hx))⟩⟩
 ·have : i = l.length := by omega
  subst this
  exact .inl ⟨_, h3, .inl ⟨rfl, all_get.1 hall⟩⟩
theorem loop_copy {α : Type} (l : List α) (f : List α × Int → Option ((List α × Int) ⊕ List α))
  (h1 : ∀ (m : List α) (i : Nat) x, i < l.length → l[i]? = some x → m.length = l.length → f (m, (i : Int)) = some (.inl (m.set i x, (i : Int) + 1)))
  (h2 : ∀ m : List α, f (m, (l.length : Int)) = some (.inr m)) (m : List α) (hm : m.length = l.length) : loopO f (m, 0) = some l := by
 refine loop_some l.length (fun i s => s.2 = (i : Int) ∧ s.1.length = l.length ∧ ∀ j, j < i → s.1[j]? = l[j]?) (fun i s hi hs => ?_) l.length 0 _ (by omega) ⟨rfl, hm, fun j hj => by omega⟩
 obtain ⟨m, k⟩ := s
 obtain ⟨rfl, hml, hall⟩ := hs
 simp only at hml hall ⊢
 by_cases hn : i < l.length
 ·obtain ⟨x, hx⟩ : ∃ x, l[i]? = some x := ⟨_, List.getElem?_eq_getElem hn⟩
  refine .inr ⟨hn, _, h1 m i x hn hx hml, by simp, by simp [hml], fun j hj => ?_⟩
  by_cases hji : j = i
  ·subst hji; simp only; rw [List.getElem?_set_self (by omega), hx]
  ·simp only; rw [List.getElem?_set_ne (by omega)]; exact hall j (by omega)
 ·have : i = l.length := by omega
  subst this
  refine .inl ?_
  rw [h2]
  congr 2
  apply List.ext_getElem?
  intro j
  by_cases hj : j < l.length
  ·exact hall j hj
  ·rw [List.getElem?_eq_none (by omega), List.getElem?_eq_none (by omega)]
open Classical in
theorem loop_eq {α ρ : Type} (l m : List α) (hl : l.length = m.length) (f : Int → Option (Int ⊕ ρ)) (rT rF : ρ)
  (h1 : ∀ (i : Nat) x, i < l.length → l[i]? = some x → m[i]? = some x → f (i : Int) = some (.inl ((i : Int) + 1)))
  (h2 : ∀ (i : Nat) x y, i < l.length → l[i]? = some x → m[i]? = some y → ¬x = y → f (i : Int) = some (.inr rF))
  (h3 : f (l.length : Int) = some (.inr rT)) : loopO f 0 = some (if l = m then rT else rF) := by
 rw [loop_all l.length (fun i => l[i]? = m[i]?) f rT rF ?_ ?_ h3]
 ·have : (∀ i, i < l.length → l[i]? = m[i]?) ↔ l = m := by
   constructor
   ·intro h
    apply List.ext_getElem?
    intro j
    by_cases hj : j < l.length
    ·exact h j hj
    ·rw [List.getElem?_eq_none (by omega), List.getElem?_eq_none (by omega)]
   ·rintro rfl i hi; rfl
  simp only [this]
 ·intro i hi hp
  obtain ⟨x, hx⟩ : ∃ x, l[i]? = some x := ⟨_, List.getElem?_eq_getElem hi⟩
  exact h1 i x hi hx (by rw [← hp, hx])
 ·intro i hi hp
  obtain ⟨x, hx⟩ : ∃ x, l[i]? = some x := ⟨_, List.getElem?_eq_getElem hi⟩
  obtain ⟨y, hy⟩ : ∃ y, m[i]? = some y := ⟨_, List.getElem?_eq_getElem (by omega)⟩
  exact h2 i x y hi hx hy (fun h => hp (by rw [hx, hy, h]))
theorem loop_room (n : Nat) (f : Int × Int → Option ((Int × Int) ⊕ (Int ⊕ Int))) (L : Int)
  (h1 : ∀ (i : Nat) (k : Int), i < n → 0 ≤ k → k ≤ L → f (k, (i : Int)) = some (.inr (.inr (-1))) ∨ ∃ k', 0 ≤ k' ∧ k' ≤ k ∧ f (k, (i : Int)) = some (.inl (k', (i : Int) + 1)))
  (h2 : ∀ k : Int, f (k, (n : Int)) = some (.inr (.inl k))) (h0 : 0 ≤ L) : ∃ r, loopO f (L, 0) = some r ∧ (r = .inr (-1) ∨ ∃ k, r = .inl k ∧ 0 ≤ k ∧ k ≤ L) := by
 refine loop_ex _ n (fun i s => s.2 = (i : Int) ∧ 0 ≤ s.1 ∧ s.1 ≤ L) (fun i s hi hs => ?_) n 0 _ (by omega) ⟨rfl, h0, Int.le_refl _⟩
 obtain ⟨k, j⟩ := s
 obtain ⟨rfl, hk0, hk⟩ := hs
 simp only at hk0 hk ⊢
 by_cases hn : i < n
 ·rcases h1 i k hn hk0 hk with h | ⟨k', a, b, h⟩
  ·exact .inl ⟨_, h, .inl rfl⟩
  ·exact .inr ⟨hn, _, h, by simp, a, by simp only; omega⟩
 ·have : i = n := by omega
  subst this
  exact .inl ⟨_, h2 k, .inr ⟨k, rfl, hk0, hk⟩⟩
theorem loop_mark {α : Type} (w : Nat) (e : Int → α) (n : Nat) (K : Int) (f : List α × Int × Int → Option ((List α × Int × Int) ⊕ (List α × Int)))
  (h1 : ∀ (m : List α) (i : Nat) (k : Int), i < n → m.length = n → k = K + w * i → f (m, k, (i : Int)) = some (.inl (m.set i (e k), k + w, (i : Int) + 1)))
  (h2 : ∀ (m : List α) (k : Int), m.length = n → f (m, k, (n : Int)) = some (.inr (m, k))) (m : List α) (hm : m.length = n) :
  ∃ m', loopO f (m, K, 0) = some (m', K + w * n) ∧ m'.length = n ∧ ∀ j : Nat, j < n → m'[j]? = some (e (K + w * j)) := by
 have := loop_ex (f := f) (fun r => r.2 = K + w * n ∧ r.1.length = n ∧ ∀ j : Nat, j < n → r.1[j]? = some (e (K + w * j))) n (fun i s => s.2.2 = (i : Int) ∧ s.2.1 = K + w * i ∧ s.1.length = n ∧ ∀ j : Nat, j < i → s.1[j]? = some (e (K + w * j))) (fun i s hi hs => ?_) n 0 (m, K, 0) (by omega) ⟨rfl, by simp, hm, fun j hj => by omega⟩
 ·obtain ⟨⟨m', k'⟩, hr, hk, hl, ha⟩ := this
  exact ⟨m', by rw [hr]; simp only at hk; rw [hk], hl, ha⟩
 ·obtain ⟨m, k, j⟩ := s
  obtain ⟨rfl, hk, hml, hall⟩ := hs
  simp only at hk hml hall ⊢
  by_cases hn : i < n
  ·refine .inr ⟨hn, _, h1 m i k hn hml hk, by simp, ?_, by simp [hml], fun j hj => ?_⟩
   ·simp only; rw [hk]; push_cast; rw [Int.mul_add]; omega
   ·simp only
    by_cases hji : j = i
    ·subst hji; rw [List.getElem?_set_self (by omega), hk]
    ·rw [List.getElem?_set_ne (by omega)]; exact hall j (by omega)
  ·have : i = n := by omega
   subst this
   exact .inl ⟨_, h2 m k hml, hk, hml, hall⟩
theorem loop_held {ρ : Type} (w n : Nat) (K : Int) (f : Int × Int → Option ((Int × Int) ⊕ (Int ⊕ ρ)))
  (h1 : ∀ (i : Nat) (k : Int), i < n → k = K + w * i → f (k, (i : Int)) = some (.inl (k + w, (i : Int) + 1)))
  (h2 : ∀ (k : Int), f (k, (n : Int)) = some (.inr (.inl k))) : loopO f (K, 0) = some (.inl (K + w * n)) := by
 refine loop_some n (fun i s => s.2 = (i : Int) ∧ s.1 = K + w * i) (fun i s hi hs => ?_) n 0 _ (by omega) ⟨rfl, by simp⟩
 obtain ⟨k, j⟩ := s
 obtain ⟨rfl, hk⟩ := hs
 simp only at hk ⊢
 by_cases hn : i < n
 ·refine .inr ⟨hn, _, h1 i k hn hk, by simp, ?_⟩
  simp only; rw [hk]; push_cast; rw [Int.mul_add]; omega
 ·have : i = n := by omega
  subst this
  left; rw [h2, hk]
theorem wrap_in {n : Int} (h : -9223372036854775808 ≤ n) (h' : n ≤ 9223372036854775807) : IntKind.i64.wrap n = n := by rw [IntKind.wrap_i64]; omega
theorem get_at {α : Type} {l : List α} {i : Nat} (h : i < l.length) : ∃ x, l[i]? = some x := ⟨_, List.getElem?_eq_getElem h⟩
theorem mkL_ok {α : Type} (bs n : Nat) (z : α) (h : n * bs ≤ maxRow) (h' : n ≤ maxRow) : mkL bs (n : Int) (n : Int) z = some (List.replicate n z) := by
 unfold mkL; rw [if_pos ⟨by omega, rfl, by simpa using h, by simpa using h'⟩]; simp
theorem appL_nil {α : Type} (bs : Nat) (l : List α) (h : l.length * (bs + 1) ≤ maxRow) : appL bs [] l = some l := by
 unfold appL; rw [if_pos (by simpa using h)]; simp
theorem loopO_inl {σ ρ : Type} {f : σ → Option (σ ⊕ ρ)} {s s' : σ} (h : f s = some (.inl s')) : loopO f s = loopO f s' := by rw [loopO_unfold, h]; rfl
theorem loopO_inr {σ ρ : Type} {f : σ → Option (σ ⊕ ρ)} {s : σ} {r : ρ} (h : f s = some (.inr r)) : loopO f s = some r := by rw [loopO_unfold, h]; rfl
end Go.Proofs.TM
namespace Go.Proofs.TM
open Go Go.Proofs
set_option linter.unusedVariables false
set_option linter.unusedSimpArgs false
set_option maxHeartbeats 1000000
abbrev DDisk := List Str × List (Int × Str) × Int × Bool
abbrev DSuper := Int × Int × Int × Int
theorem w1 {i : Nat} (h : i < 9223372036854775807) : IntKind.i64.wrap ((i : Int) + 1) = (i : Int) + 1 := wrap_in (by omega) (by omega)
def StrsOk (l : List Str) : Prop := l.length ≤ 9223372036854775807 ∧ ∀ x ∈ l, x.length ≤ 9223372036854775807
def PutsOk (l : List (Int × Str)) : Prop := l.length ≤ 9223372036854775807 ∧ ∀ x ∈ l, x.2.length ≤ 9223372036854775807
theorem dF {Q : Prop} {d : Decidable Q} (h : ¬Q) : some false = some (@decide Q d) := by rw [decide_eq_false h]
theorem dT {Q : Prop} {d : Decidable Q} (h : Q) : some true = some (@decide Q d) := by rw [decide_eq_true h]
theorem dI {P Q : Prop} {d : Decidable P} {d' : Decidable Q} (h : P ↔ Q) : some (@decide P d) = some (@decide Q d') := by
 by_cases hp : P
 ·rw [decide_eq_true hp, decide_eq_true (h.1 hp)]
 ·rw [decide_eq_false hp, decide_eq_false (fun q => hp (h.2 q))]
theorem deq {p : Prop} {d : Decidable p} : (@decide p d = true) = p := by simp
theorem dT' {Q : Prop} {d : Decidable Q} (h : Q) : some (@decide Q d) = some true := (dT h).symm
theorem bind_some' {α : Type} (x : Option α) : (x.bind fun r => some r) = x := by cases x <;> rfl
theorem strsOk_of {l : List Str} (h : Gd.ok l) : StrsOk l := ⟨Nat.le_trans h.1 (by decide), fun x hx => Nat.le_trans (h.2 x hx).1 (by decide)⟩
theorem putsOk_of {l : List (Int × Str)} (h : Gd.ok l) : PutsOk l := ⟨Nat.le_trans h.1 (by decide), fun x hx => Nat.le_trans (h.2 x hx).2.1 (by decide)⟩
theorem subL_from {α : Type} (s : List α) (k : Nat) (h : k ≤ s.length) : subL s (some (k : Int)) none = some (s.drop k) := by
 simp [subL, bound, h]
theorem subL_to {α : Type} (s : List α) (k : Nat) (h : k ≤ s.length) : subL s none (some (k : Int)) = some (s.take k) := by
 simp [subL, bound, h]
theorem subL_mid {α : Type} (s : List α) (a b : Nat) (h : a ≤ b) (h' : b ≤ s.length) : subL s (some (a : Int)) (some (b : Int)) = some ((s.take b).drop a) := by
 simp [subL, bound, h, h']
theorem map_v (l : Str) : (l.map Bt.mk).map Bt.v = l := by
 rw [List.map_map]
 have : (Bt.v ∘ Bt.mk) = id := rfl
 rw [this, List.map_id]
end Go.Proofs.TM
namespace Go.Proofs.TM
open Go Go.Proofs
set_option linter.unusedVariables false
set_option linter.unusedSimpArgs false
set_option maxHeartbeats 1000000
theorem l00In_out (n a b : Int) : spec_l00In n a b = some (decide (a ≤ n ∧ n ≤ b)) := by
 unfold spec_l00In; by_cases h : n ≥ a
 ·rw [if_pos h]; have : a ≤ n := h; simp [this]
 ·rw [if_neg h]; have : ¬a ≤ n := h; simp [this]
theorem within_out (n a b : Int) : impl_within n a b = some (decide (a ≤ n ∧ n ≤ b)) := l00In_out n a b
def DiskV (d : DDisk) : Prop := 16 ≤ (d.1.length : Int) ∧ (d.1.length : Int) ≤ 256 ∧ (d.2.1.length : Int) ≤ 600 ∧ -1 ≤ d.2.2.1 ∧ d.2.2.1 ≤ 100000 ∧ (∀ x ∈ d.1, x.length = 64) ∧ ∀ p ∈ d.2.1, 0 ≤ p.1 ∧ p.1 ≤ (d.1.length : Int) - 1 ∧ p.2.length = 64
open Classical in
theorem l09Ok_out (d : DDisk) : spec_l09Ok d = some (decide (DiskV d)) := by
 unfold spec_l09Ok
 rw [l00In_out, Option.bind_some]
 by_cases h1 : 16 ≤ (d.1.length : Int) ∧ (d.1.length : Int) ≤ 256
 case neg => rw [if_pos (by simp [h1])]; exact dF fun h => h1 ⟨h.1, h.2.1⟩
 rw [if_neg (by simp [h1])]
 by_cases h2 : (d.2.1.length : Int) > 600
 case pos => rw [if_pos h2]; exact dF fun h => by have := h.2.2.1; omega
 rw [if_neg h2, l00In_out, Option.bind_some]
 by_cases h3 : -1 ≤ d.2.2.1 ∧ d.2.2.1 ≤ 100000
 case neg => rw [if_pos (by simp [h3])]; exact dF fun h => h3 ⟨h.2.2.2.1, h.2.2.2.2.1⟩
 rw [if_neg (by simp [h3])]
 unfold spec_l09Ok_l1
 rw [loop_mem d.1 (fun x => x.length = 64) (fun s => spec_l09Ok_l1_b d.1 d.2.1 d.2.2.1 d.2.2.2 d.1.length s) (.inl (d.1, d.2.1, d.2.2.1, d.2.2.2, (d.1.length : Int))) (.inr false) (fun i x hi hx hp => by
   have hx' := (List.getElem?_eq_some_iff.1 hx).2
   have hp' : (x.length : Int) = 64 := by omega
   simp [spec_l09Ok_l1_b, hi, hx', hp', w1 (show i < 9223372036854775807 by omega)]) (fun i x hi hx hp => by
   have hx' := (List.getElem?_eq_some_iff.1 hx).2
   have hp' : ¬(x.length : Int) = 64 := by omega
   simp [spec_l09Ok_l1_b, hi, hx', hp']) (by simp [spec_l09Ok_l1_b])]
 by_cases h4 : ∀ x ∈ d.1, x.length = 64
 case neg => rw [if_neg h4]; exact dF fun h => h4 h.2.2.2.2.2.1
 rw [if_pos h4]
 simp only [Option.bind_some, Sum.elim_inl]
 unfold spec_l09Ok_l2
 rw [loop_mem d.2.1 (fun p => 0 ≤ p.1 ∧ p.1 ≤ (d.1.length : Int) - 1 ∧ p.2.length = 64) (fun s => spec_l09Ok_l2_b d.1 d.2.1 d.2.2.1 d.2.2.2 d.1.length s) (.inl ()) (.inr false) (fun i x hi hx hp => by
   have hx' := (List.getElem?_eq_some_iff.1 hx).2
   have hp' : (x.2.length : Int) = 64 := by omega
   simp [spec_l09Ok_l2_b, hi, hx', hp', hp.1, hp.2.1, l00In_out, wrap_in (show -9223372036854775808 ≤ (d.1.length : Int) - 1 by omega) (by omega), w1 (show i < 9223372036854775807 by omega)]) (fun i x hi hx hp => by
   have hx' := (List.getElem?_eq_some_iff.1 hx).2
   simp [spec_l09Ok_l2_b, hi, hx', l00In_out, wrap_in (show -9223372036854775808 ≤ (d.1.length : Int) - 1 by omega) (by omega)]
   by_cases hq : 0 ≤ x.1 ∧ x.1 ≤ (d.1.length : Int) - 1
   ·have hp' : ¬(x.2.length : Int) = 64 := fun h => hp ⟨hq.1, hq.2, by omega⟩
    simp [hq.1, hq.2, hp']
   ·intro a b; exact absurd ⟨a, b⟩ hq) (by simp [spec_l09Ok_l2_b])]
 by_cases h5 : ∀ p ∈ d.2.1, 0 ≤ p.1 ∧ p.1 ≤ (d.1.length : Int) - 1 ∧ p.2.length = 64
 ·rw [if_pos h5]; exact dT ⟨h1.1, h1.2, by omega, h3.1, h3.2, h4, h5⟩
 ·rw [if_neg h5]; exact dF fun h => h5 h.2.2.2.2.2.2
open Classical in
theorem ValidDisk_out (d : DDisk) : impl_ValidDisk d = some (decide (DiskV d)) := by
 unfold impl_ValidDisk
 rw [within_out, Option.bind_some]
 by_cases h1 : 16 ≤ (d.1.length : Int) ∧ (d.1.length : Int) ≤ 256
 case neg => rw [if_pos (by simp [h1])]; exact dF fun h => h1 ⟨h.1, h.2.1⟩
 rw [if_neg (by simp [h1])]
 by_cases h2 : (d.2.1.length : Int) > 600
 case pos => rw [if_pos h2]; exact dF fun h => by have := h.2.2.1; omega
 rw [if_neg h2, within_out, Option.bind_some]
 by_cases h3 : -1 ≤ d.2.2.1 ∧ d.2.2.1 ≤ 100000
 case neg => rw [if_pos (by simp [h3])]; exact dF fun h => h3 ⟨h.2.2.2.1, h.2.2.2.2.1⟩
 rw [if_neg (by simp [h3])]
 unfold slices_ContainsFunc_string_string__ValidDisk_c1 slices_IndexFunc_string_string__ValidDisk_c1 slices_IndexFunc_string_string__ValidDisk_c1_l1
 obtain ⟨r, hr, hx⟩ := loop_find d.1 (fun x => x.length = 64) (fun s => slices_IndexFunc_string_string__ValidDisk_c1_l1_b d.1 d.1.length s) () (fun i x hi hx hp => by
   have hx' := (List.getElem?_eq_some_iff.1 hx).2
   have hp' : (x.length : Int) = 64 := by omega
   simp [slices_IndexFunc_string_string__ValidDisk_c1_l1_b, impl_ValidDisk_c1, impl_isBlock, hi, hx', hp', w1 (show i < 9223372036854775807 by omega)]) (fun i x hi hx hp => by
   have hx' := (List.getElem?_eq_some_iff.1 hx).2
   have hp' : ¬(x.length : Int) = 64 := by omega
   simp [slices_IndexFunc_string_string__ValidDisk_c1_l1_b, impl_ValidDisk_c1, impl_isBlock, hi, hx', hp']) (by simp [slices_IndexFunc_string_string__ValidDisk_c1_l1_b])
 rw [hr]
 rcases hx with ⟨rfl, h4⟩ | ⟨k, rfl, hk, h4⟩
 case inr => simp [hk]; exact fun h => h4 h.2.2.2.2.2.1
 simp only [Option.bind_some, Sum.elim_inl]
 rw [if_neg (by simp)]
 unfold slices_ContainsFunc_impl_Put_impl_Put__ValidDisk_c2 slices_IndexFunc_impl_Put_impl_Put__ValidDisk_c2 slices_IndexFunc_impl_Put_impl_Put__ValidDisk_c2_l1
 obtain ⟨r, hr, hx⟩ := loop_find d.2.1 (fun p => 0 ≤ p.1 ∧ p.1 ≤ (d.1.length : Int) - 1 ∧ p.2.length = 64) (fun s => slices_IndexFunc_impl_Put_impl_Put__ValidDisk_c2_l1_b d.2.1 d.1 d.2.1 d.2.2.1 d.2.2.2 d.2.1.length s) () (fun i x hi hx hp => by
   have hx' := (List.getElem?_eq_some_iff.1 hx).2
   have hp' : (x.2.length : Int) = 64 := by omega
   simp [slices_IndexFunc_impl_Put_impl_Put__ValidDisk_c2_l1_b, impl_ValidDisk_c2, impl_isIndex, within_out, impl_isBlock, hi, hx', hp', hp.1, hp.2.1, wrap_in (show -9223372036854775808 ≤ (d.1.length : Int) - 1 by omega) (by omega), w1 (show i < 9223372036854775807 by omega)]) (fun i x hi hx hp => by
   have hx' := (List.getElem?_eq_some_iff.1 hx).2
   simp [slices_IndexFunc_impl_Put_impl_Put__ValidDisk_c2_l1_b, impl_ValidDisk_c2, impl_isIndex, within_out, impl_isBlock, hi, hx', wrap_in (show -9223372036854775808 ≤ (d.1.length : Int) - 1 by omega) (by omega)]
   by_cases hq : 0 ≤ x.1 ∧ x.1 ≤ (d.1.length : Int) - 1
   ·have hp' : ¬(x.2.length : Int) = 64 := fun h => hp ⟨hq.1, hq.2, by omega⟩
    simp [hq.1, hq.2, hp']
   ·intro a b; exact absurd ⟨a, b⟩ hq) (by simp [slices_IndexFunc_impl_Put_impl_Put__ValidDisk_c2_l1_b])
 rw [hr]
 rcases hx with ⟨rfl, h5⟩ | ⟨k, rfl, hk, h5⟩
 ·simp; exact ⟨h1.1, h1.2, by omega, h3.1, h3.2, h4, h5⟩
 ·simp [hk]; exact fun h => h5 h.2.2.2.2.2.2
end Go.Proofs.TM
namespace Go.Proofs.TM
open Go Go.Proofs
set_option linter.unusedVariables false
set_option linter.unusedSimpArgs false
set_option maxHeartbeats 1000000
theorem szStringS_out (l : List Str) (h : StrsOk l) (L : Int) (h0 : 0 ≤ L) (h1 : L < 9223372036854775807) : laws_szStringS l L = some (-1) ∨ ∃ r, laws_szStringS l L = some r ∧ 0 ≤ r ∧ r ≤ L ∧ (l.length : Int) ≤ L := by
 obtain ⟨hl, hs⟩ := h
 unfold laws_szStringS
 rw [wrap_in (by omega) (by omega)]
 by_cases hc : L - (l.length : Int) < 0
 ·rw [if_pos hc]; exact .inl rfl
 rw [if_neg hc]
 obtain ⟨r, hr, hx⟩ := loop_room l.length (fun s => laws_szStringS_l1_b l s.1 s.2) (L - l.length) (fun i k hi hk hkL => by
  obtain ⟨x, hx⟩ := get_at hi
  have hxl := hs x (List.mem_of_getElem? hx)
  simp only [laws_szStringS_l1_b, Int.ofNat_lt.2 hi, Int.natCast_nonneg, Int.toNat_natCast, hx, if_true, Option.bind_some, w1 (Nat.lt_of_lt_of_le hi hl)]
  rw [wrap_in (by omega) (by omega)]
  by_cases hc : k - (x.length : Int) < 0
  ·rw [if_pos hc]; exact .inl rfl
  ·rw [if_neg hc]; exact .inr ⟨_, by omega, by omega, rfl⟩) (fun k => by simp [laws_szStringS_l1_b]) (by omega)
 unfold laws_szStringS_l1
 rw [hr]
 rcases hx with rfl | ⟨k, rfl, ha, hb⟩
 ·exact .inl rfl
 ·exact .inr ⟨k, rfl, ha, by omega, by omega⟩
theorem szPutS_out (l : List (Int × Str)) (h : PutsOk l) (L : Int) (h0 : 0 ≤ L) (h1 : L < 9223372036854775807) : laws_szPutS l L = some (-1) ∨ ∃ r, laws_szPutS l L = some r ∧ 0 ≤ r ∧ r ≤ L ∧ (l.length : Int) ≤ L := by
 obtain ⟨hl, hs⟩ := h
 unfold laws_szPutS
 rw [wrap_in (by omega) (by omega)]
 by_cases hc : L - (l.length : Int) < 0
 ·rw [if_pos hc]; exact .inl rfl
 rw [if_neg hc]
 obtain ⟨r, hr, hx⟩ := loop_room l.length (fun s => laws_szPutS_l1_b l s.1 s.2) (L - l.length) (fun i k hi hk hkL => by
  obtain ⟨x, hx⟩ := get_at hi
  have hxl := hs x (List.mem_of_getElem? hx)
  simp only [laws_szPutS_l1_b, laws_szPut, Int.ofNat_lt.2 hi, Int.natCast_nonneg, Int.toNat_natCast, hx, if_true, Option.bind_some, w1 (Nat.lt_of_lt_of_le hi hl)]
  rw [wrap_in (by omega) (by omega)]
  by_cases hc : k - (x.2.length : Int) < 0
  ·simp only [if_pos hc]; exact .inl rfl
  ·simp only [if_neg hc, Option.bind_some]; exact .inr ⟨_, by omega, by omega, rfl⟩) (fun k => by simp [laws_szPutS_l1_b]) (by omega)
 unfold laws_szPutS_l1
 rw [hr]
 rcases hx with rfl | ⟨k, rfl, ha, hb⟩
 ·exact .inl rfl
 ·exact .inr ⟨k, rfl, ha, by omega, by omega⟩
theorem toStringS_out (l : List Str) (h : l.length ≤ 1048576) : laws_toStringS l = some l := by
 unfold laws_toStringS laws_toStringS_l1
 rw [mkL_ok 16 _ _ (by unfold maxRow; omega) (by unfold maxRow; omega), Option.bind_some, loop_copy l (fun s => laws_toStringS_l1_b l s.1 s.2) (fun m i x hi hx hm => ?_) (fun m => ?_) _ (by simp), Option.bind_some]
 ·obtain ⟨y, hy⟩ := get_at (l := m) (by omega : i < m.length)
  have hx' := (List.getElem?_eq_some_iff.1 hx).2
  simp [laws_toStringS_l1_b, hi, hx', hm, w1 (show i < 9223372036854775807 by omega)]
 ·simp [laws_toStringS_l1_b]
theorem toPutS_out (l : List (Int × Str)) (h : l.length ≤ 1048576) : laws_toPutS l = some l := by
 unfold laws_toPutS laws_toPutS_l1
 rw [mkL_ok 24 _ _ (by unfold maxRow; omega) (by unfold maxRow; omega), Option.bind_some, loop_copy l (fun s => laws_toPutS_l1_b l s.1 s.2) (fun m i x hi hx hm => ?_) (fun m => ?_) _ (by simp), Option.bind_some]
 ·obtain ⟨y, hy⟩ := get_at (l := m) (by omega : i < m.length)
  have hx' := (List.getElem?_eq_some_iff.1 hx).2
  simp [laws_toPutS_l1_b, laws_toPut, hi, hx', hm, w1 (show i < 9223372036854775807 by omega)]
 ·simp [laws_toPutS_l1_b]
theorem eqStringS_same (l : List Str) (h : l.length ≤ 1048576) : laws_eqStringS l l = some true := by
 unfold laws_eqStringS laws_eqStringS_l1
 rw [if_neg (by simp), loop_eq l l rfl (fun s => laws_eqStringS_l1_b l l s) (.inl ()) (.inr false) (fun i x hi hx hx2 => by
  have hx' := (List.getElem?_eq_some_iff.1 hx).2
  simp [laws_eqStringS_l1_b, hi, hx', w1 (show i < 9223372036854775807 by omega)]) (fun i x y hi hx hy hxy => by
  rw [hx] at hy; cases hy; exact absurd rfl hxy) (by simp [laws_eqStringS_l1_b])]
 simp
theorem eqPutS_same (l : List (Int × Str)) (h : l.length ≤ 1048576) : laws_eqPutS l l = some true := by
 unfold laws_eqPutS laws_eqPutS_l1
 rw [if_neg (by simp), loop_eq l l rfl (fun s => laws_eqPutS_l1_b l l s) (.inl ()) (.inr false) (fun i x hi hx hx2 => by
  have hx' := (List.getElem?_eq_some_iff.1 hx).2
  simp [laws_eqPutS_l1_b, laws_eqPut, hi, hx', w1 (show i < 9223372036854775807 by omega)]) (fun i x y hi hx hy hxy => by
  rw [hx] at hy; cases hy; exact absurd rfl hxy) (by simp [laws_eqPutS_l1_b])]
 simp
end Go.Proofs.TM
namespace Go.Proofs.TM
open Go Go.Proofs
set_option linter.unusedVariables false
set_option linter.unusedSimpArgs false
set_option maxHeartbeats 1000000
theorem markText_loop (k : Nat) : ∀ s : Str, s.length + k ≤ 9223372036854775807 → ∃ s', laws_markText_l1 ((k : Int), s) = some s' ∧ s'.length ≤ s.length + k := by
 induction k using Nat.strongRecOn with
 | _ k ih =>
  intro s hs
  unfold laws_markText_l1
  rw [loopO_unfold]
  by_cases hk : k = 0
  ·subst hk; exact ⟨s, by simp [laws_markText_l1_b], by omega⟩
  ·have hd : Int.tdiv (k : Int) 10 = ((k / 10 : Nat) : Int) := by rw [Int.tdiv_eq_ediv_of_nonneg (by omega)]; rfl
   have hw : IntKind.i64.wrap ((k / 10 : Nat) : Int) = ((k / 10 : Nat) : Int) := wrap_in (by omega) (by omega)
   generalize hb : (⟨UInt8.ofNat ((IntKind.u8.wrap ((IntKind.i64.wrap (48 + (Int.tmod (k : Int) 10)))))).toNat⟩ : Bt) = b
   have hstep : laws_markText_l1_b (k : Int) s = some (.inl (((k / 10 : Nat) : Int), b.v :: s)) := by
    simp only [laws_markText_l1_b, hb, hd, hw]
    rw [if_pos (by omega)]
    rw [if_pos (by simp [lit]; omega)]
    rfl
   simp only [hstep, Option.bind_some, Sum.elim_inl]
   obtain ⟨s', h1, h2⟩ := ih (k / 10) (by omega) (b.v :: s) (by simp; omega)
   exact ⟨s', h1, by simp at h2; omega⟩
theorem markText_ex (k : Int) (h : k ≤ 1099511627776) : ∃ s, laws_markText k = some s := by
 unfold laws_markText
 by_cases hk : k ≤ 0
 ·exact ⟨_, if_pos hk⟩
 ·obtain ⟨n, rfl⟩ : ∃ n : Nat, k = n := ⟨k.toNat, by omega⟩
  obtain ⟨s, h1, h2⟩ := markText_loop n [] (by simp; omega)
  rw [if_neg hk, h1, Option.bind_some, if_pos (by simp at h2 ⊢; omega)]
  exact ⟨_, rfl⟩
noncomputable def mt (k : Int) : Str := (laws_markText k).getD []
theorem markText_mt {k : Int} (h : k ≤ 1099511627776) : laws_markText k = some (mt k) := by
 obtain ⟨s, hs⟩ := markText_ex k h; rw [mt, hs]; rfl
def Marked {α : Type} (e : Int → α) (w : Nat) (K : Int) (l : List α) : Prop := ∀ j : Nat, j < l.length → l[j]? = some (e (K + w * j))
noncomputable def ePut (k : Int) : Int × Str := (k, mt (k + 1))
theorem markStringS_out (l : List Str) (h : l.length ≤ 1048576) (K : Int) (h0 : 0 ≤ K) (hK : K ≤ 1073741824) : ∃ m, laws_markStringS_o35 l K = some (m, K + l.length) ∧ m.length = l.length ∧ Marked mt 1 K m := by
 unfold laws_markStringS_o35 laws_markStringS_o35_l1
 obtain ⟨m, h1, h2, h3⟩ := loop_mark 1 mt l.length K (fun s => laws_markStringS_o35_l1_b s.1 s.2.1 s.2.2) (fun m i k hi hm hk => by
  obtain ⟨y, hy⟩ := get_at (l := m) (by omega : i < m.length)
  simp [laws_markStringS_o35_l1_b, hi, hm, hy, markText_mt (show k ≤ 1099511627776 by omega), w1 (show i < 9223372036854775807 by omega), wrap_in (show -9223372036854775808 ≤ k + 1 by omega) (by omega)]) (fun m k hm => by simp [laws_markStringS_o35_l1_b, hm]) l rfl
 exact ⟨m, by rw [h1]; simp, h2, by unfold Marked; rw [h2]; exact h3⟩
theorem markPutS_out (l : List (Int × Str)) (h : l.length ≤ 1048576) (K : Int) (h0 : 0 ≤ K) (hK : K ≤ 1073741824) : ∃ m, laws_markPutS_o2a l K = some (m, K + 2 * l.length) ∧ m.length = l.length ∧ Marked ePut 2 K m := by
 unfold laws_markPutS_o2a laws_markPutS_o2a_l1
 obtain ⟨m, h1, h2, h3⟩ := loop_mark 2 ePut l.length K (fun s => laws_markPutS_o2a_l1_b s.1 s.2.1 s.2.2) (fun m i k hi hm hk => by
  obtain ⟨y, hy⟩ := get_at (l := m) (by omega : i < m.length)
  simp [laws_markPutS_o2a_l1_b, hi, hm, hy, w1 (show i < 9223372036854775807 by omega), wrap_in (show -9223372036854775808 ≤ k + 1 by omega) (by omega), markText_mt (show k + 1 ≤ 1099511627776 by omega), wrap_in (show -9223372036854775808 ≤ k + 2 by omega) (by omega), ePut, Int.add_assoc]) (fun m k hm => by simp [laws_markPutS_o2a_l1_b, hm]) l rfl
 exact ⟨m, by rw [h1]; simp, h2, by unfold Marked; rw [h2]; exact h3⟩
end Go.Proofs.TM
namespace Go.Proofs.TM
open Go Go.Proofs
set_option linter.unusedVariables false
set_option linter.unusedSimpArgs false
set_option maxHeartbeats 1000000
theorem heldStringS_out (l : List Str) (h : l.length ≤ 1048576) (K : Int) (h0 : 0 ≤ K) (hK : K ≤ 1073741824) (hm : Marked mt 1 K l) : laws_heldStringS l K = some (K + l.length) := by
 unfold laws_heldStringS laws_heldStringS_l1
 rw [loop_held 1 l.length K (fun s => laws_heldStringS_l1_b l s.1 s.2) (fun i k hi hk => by
  have hg := hm i hi
  rw [← hk] at hg
  have hg' := (List.getElem?_eq_some_iff.1 hg).2
  simp [laws_heldStringS_l1_b, hi, hg', markText_mt (show k ≤ 1099511627776 by omega), w1 (show i < 9223372036854775807 by omega), wrap_in (show -9223372036854775808 ≤ k + 1 by omega) (by omega)]) (fun k => by simp [laws_heldStringS_l1_b])]
 simp
theorem heldPutS_out (l : List (Int × Str)) (h : l.length ≤ 1048576) (K : Int) (h0 : 0 ≤ K) (hK : K ≤ 1073741824) (hm : Marked ePut 2 K l) : laws_heldPutS l K = some (K + 2 * l.length) := by
 unfold laws_heldPutS laws_heldPutS_l1
 rw [loop_held 2 l.length K (fun s => laws_heldPutS_l1_b l s.1 s.2) (fun i k hi hk => by
  have hg := hm i hi
  rw [← hk] at hg
  have hg' := (List.getElem?_eq_some_iff.1 hg).2
  simp [laws_heldPutS_l1_b, hi, hg', ePut, w1 (show i < 9223372036854775807 by omega), wrap_in (show -9223372036854775808 ≤ k + 1 by omega) (by omega), markText_mt (show k + 1 ≤ 1099511627776 by omega), wrap_in (show -9223372036854775808 ≤ k + 2 by omega) (by omega), Int.add_assoc]) (fun k => by simp [laws_heldPutS_l1_b])]
 simp
end Go.Proofs.TM
namespace Go.Proofs.TM
open Go Go.Proofs
set_option linter.unusedVariables false
set_option linter.unusedSimpArgs false
set_option maxHeartbeats 1000000
def SuperV (s : DSuper) : Prop := 16 ≤ s.1 ∧ s.1 ≤ 256 ∧ 8 ≤ s.2.1 ∧ s.2.1 ≤ 64 ∧ s.2.1 ≤ s.1 - 4 ∧ 0 ≤ s.2.2.1 ∧ s.2.2.1 ≤ 1000000000000 ∧ 0 ≤ s.2.2.2 ∧ s.2.2.2 ≤ 1000000000000
open Classical in
theorem sValidSuper_out (s : DSuper) : spec_ValidSuper s = some (decide (SuperV s)) := by
 unfold spec_ValidSuper SuperV
 simp only [l00In_out, Option.bind_some, decide_eq_true_eq]
 by_cases h1 : 16 ≤ s.1 ∧ s.1 ≤ 256
 case neg => rw [if_neg h1]; exact dF fun h => h1 ⟨h.1, h.2.1⟩
 rw [if_pos h1, wrap_in (by omega) (by omega)]
 split
 ·split
  ·split
   ·exact dI (by omega)
   ·exact dF (by omega)
  ·exact dF (by omega)
 ·exact dF (by omega)
open Classical in
theorem iValidSuper_out (s : DSuper) : impl_ValidSuper s = some (decide (SuperV s)) := by
 unfold impl_ValidSuper SuperV
 simp only [within_out, Option.bind_some, decide_eq_true_eq]
 by_cases h1 : 16 ≤ s.1 ∧ s.1 ≤ 256
 case neg => rw [if_neg h1]; exact dF fun h => h1 ⟨h.1, h.2.1⟩
 rw [if_pos h1, wrap_in (by omega) (by omega)]
 split
 ·split
  ·exact dI (by omega)
  ·exact dF (by omega)
 ·exact dF (by omega)
end Go.Proofs.TM
namespace Go.Proofs.TM
open Go Go.Proofs
set_option linter.unusedVariables false
set_option linter.unusedSimpArgs false
set_option maxHeartbeats 1000000
abbrev DPager := DDisk × DSuper × Int × Int × List (Int × Str) × List (Int × Str)
theorem szPageS_out (l : List (Int × Str)) (h : PutsOk l) (L : Int) (h0 : 0 ≤ L) (h1 : L < 9223372036854775807) : laws_szPageS l L = some (-1) ∨ ∃ r, laws_szPageS l L = some r ∧ 0 ≤ r ∧ r ≤ L ∧ (l.length : Int) ≤ L := szPutS_out l h L h0 h1
def PagerOk (a : DPager) : Prop := StrsOk a.1.1 ∧ PutsOk a.1.2.1 ∧ PutsOk a.2.2.2.2.1 ∧ PutsOk a.2.2.2.2.2
def PagerIn (a : DPager) (L : Nat) : Prop := a.1.1.length ≤ L ∧ a.1.2.1.length ≤ L ∧ a.2.2.2.2.1.length ≤ L ∧ a.2.2.2.2.2.length ≤ L
theorem szPager_le (a : DPager) (h : PagerOk a) : ∃ r, laws_szPager a 1048576 = some r ∧ r ≤ 1048576 ∧ (0 ≤ r → PagerIn a 1048576) := by
 obtain ⟨h1, h2, h3, h4⟩ := h
 unfold laws_szPager laws_szDisk
 rcases szStringS_out a.1.1 h1 1048576 (by omega) (by omega) with e | ⟨r1, e, a1, b1, c1⟩
 ·exact ⟨-1, by rw [e]; rfl, by omega, fun h => by omega⟩
 rcases szPutS_out a.1.2.1 h2 r1 a1 (by omega) with e2 | ⟨r2, e2, a2, b2, c2⟩
 ·exact ⟨-1, by rw [e, Option.bind_some, if_neg (by omega), e2]; rfl, by omega, fun h => by omega⟩
 rcases szPageS_out a.2.2.2.2.1 h3 r2 a2 (by omega) with e3 | ⟨r3, e3, a3, b3, c3⟩
 ·exact ⟨-1, by rw [e, Option.bind_some, if_neg (by omega), e2, Option.bind_some, if_neg (by omega), Option.bind_some, if_neg (by omega), e3]; rfl, by omega, fun h => by omega⟩
 rcases szPageS_out a.2.2.2.2.2 h4 r3 a3 (by omega) with e4 | ⟨r4, e4, a4, b4, c4⟩
 ·exact ⟨-1, by rw [e, Option.bind_some, if_neg (by omega), e2, Option.bind_some, if_neg (by omega), Option.bind_some, if_neg (by omega), e3, Option.bind_some, if_neg (by omega), e4]; rfl, by omega, fun h => by omega⟩
 exact ⟨r4, by rw [e, Option.bind_some, if_neg (by omega), e2, Option.bind_some, if_neg (by omega), Option.bind_some, if_neg (by omega), e3, Option.bind_some, if_neg (by omega), e4, Option.bind_some, if_neg (by omega)], by omega, fun _ => ⟨by omega, by omega, by omega, by omega⟩⟩
theorem szPager_out (a : DPager) (h : PagerOk a) : ∃ r, laws_szPager a 1048576 = some r ∧ (0 ≤ r → PagerIn a 1048576) := by
 obtain ⟨r, h1, _, h2⟩ := szPager_le a h
 exact ⟨r, h1, h2⟩
theorem toPageS_out (l : List (Int × Str)) (h : l.length ≤ 1048576) : laws_toPageS l = some l := toPutS_out l h
theorem toPager_out (a : DPager) (h : PagerIn a 1048576) : laws_toPager a = some a := by
 obtain ⟨h1, h2, h3, h4⟩ := h
 simp only [laws_toPager, laws_toDisk, laws_toSuper, toStringS_out _ h1, toPutS_out _ h2, toPageS_out _ h3, toPageS_out _ h4, Option.bind_some]
theorem eqPageS_same (l : List (Int × Str)) (h : l.length ≤ 1048576) : laws_eqPageS l l = some true := eqPutS_same l h
theorem eqPager_same (a : DPager) (h : PagerIn a 1048576) : laws_eqPager a a = some true := by
 obtain ⟨h1, h2, h3, h4⟩ := h
 simp [laws_eqPager, laws_eqDisk, laws_eqSuper, eqStringS_same _ h1, eqPutS_same _ h2, eqPageS_same _ h3, eqPageS_same _ h4]
theorem superFits_out (d : DDisk) (s : DSuper) : impl_superFits d s = some (@decide (DiskV d ∧ SuperV s ∧ s.1 = (d.1.length : Int)) (Classical.propDecidable _)) := by
 unfold impl_superFits
 simp only [ValidDisk_out, iValidSuper_out, Option.bind_some, decide_eq_true_eq]
 split
 ·split
  ·exact dI (by simp_all)
  ·exact dF (by simp_all)
 ·exact dF (by simp_all)
def PageV (l : List (Int × Str)) (i : Nat) : Prop := ∀ x, l[i]? = some x → 0 ≤ x.1 ∧ x.1 ≤ 255 ∧ x.2.length = 64 ∧ (0 < i → ∀ y, l[i - 1]? = some y → y.1 < x.1)
def PagesV (l : List (Int × Str)) : Prop := l.length ≤ 256 ∧ ∀ i, i < l.length → PageV l i
theorem l11Pages_out (l : List (Int × Str)) (hl : l.length ≤ 1048576) : spec_l11Pages l = some (@decide (PagesV l) (Classical.propDecidable _)) := by
 unfold spec_l11Pages
 by_cases h1 : (l.length : Int) > 256
 case pos => rw [if_pos h1]; exact dF fun h => by have := h.1; omega
 rw [if_neg h1]
 unfold spec_l11Pages_l1
 rw [loop_all l.length (PageV l) (fun s => spec_l11Pages_l1_b l s) (.inl ()) (.inr false) (fun i hi hp => by
   obtain ⟨x, hx⟩ := get_at hi
   have hx' := (List.getElem?_eq_some_iff.1 hx).2
   obtain ⟨a, b, c, e⟩ := hp x hx
   have c' : (x.2.length : Int) = 64 := by omega
   simp only [spec_l11Pages_l1_b, Int.ofNat_lt.2 hi, Int.natCast_nonneg, Int.toNat_natCast, hx, if_true, Option.bind_some, l00In_out, a, b, c', and_self, decide_true, not_true_eq_false, if_false, w1 (show i < 9223372036854775807 by omega)]
   by_cases h0 : (i : Int) > 0
   ·rw [if_pos h0, wrap_in (by omega) (by omega), if_pos (by omega), show ((i : Int) - 1).toNat = i - 1 by omega]
    obtain ⟨y, hy⟩ := get_at (l := l) (show i - 1 < l.length by omega)
    rw [hy, Option.bind_some, if_neg (by have := e (by omega) y hy; omega)]
   ·rw [if_neg h0]) (fun i hi hp => by
   obtain ⟨x, hx⟩ := get_at hi
   simp only [spec_l11Pages_l1_b, Int.ofNat_lt.2 hi, Int.natCast_nonneg, Int.toNat_natCast, hx, if_true, Option.bind_some, l00In_out, deq]
   by_cases a : 0 ≤ x.1 ∧ x.1 ≤ 255
   case neg => rw [if_pos a]
   rw [if_neg (by simpa using a)]
   by_cases c : (x.2.length : Int) = 64
   case neg => rw [if_pos c]
   rw [if_neg (by simpa using c)]
   by_cases h0 : (i : Int) > 0
   ·rw [if_pos h0, wrap_in (by omega) (by omega), if_pos (by omega), show ((i : Int) - 1).toNat = i - 1 by omega]
    obtain ⟨y, hy⟩ := get_at (l := l) (show i - 1 < l.length by omega)
    rw [hy, Option.bind_some]
    by_cases e : y.1 ≥ x.1
    ·rw [if_pos e]
    ·exfalso; apply hp; intro x' hx'; rw [hx] at hx'; cases hx'
     exact ⟨a.1, a.2, by omega, fun _ y' hy' => by rw [hy] at hy'; cases hy'; omega⟩
   ·exfalso; apply hp; intro x' hx'; rw [hx] at hx'; cases hx'
    exact ⟨a.1, a.2, by omega, fun h => by omega⟩) (by simp [spec_l11Pages_l1_b])]
 by_cases h5 : ∀ i, i < l.length → PageV l i
 ·rw [if_pos h5]; exact dT ⟨by omega, h5⟩
 ·rw [if_neg h5]; exact dF fun h => h5 h.2
theorem ValidPages_out (l : List (Int × Str)) (hl : l.length ≤ 1048576) : impl_ValidPages l = some (@decide (PagesV l) (Classical.propDecidable _)) := by
 unfold impl_ValidPages
 unfold impl_ValidPages_l1
 rw [loop_all l.length (PageV l) (fun s => impl_ValidPages_l1_b l l l.length s) (.inl l) (.inr false) (fun i hi hp => by
   obtain ⟨x, hx⟩ := get_at hi
   obtain ⟨a, b, c, e⟩ := hp x hx
   have c' : (x.2.length : Int) = 64 := by omega
   simp only [impl_ValidPages_l1_b, impl_isBlock, Int.ofNat_lt.2 hi, Int.natCast_nonneg, Int.toNat_natCast, hx, if_true, Option.bind_some, within_out, a, b, c', and_self, decide_true, not_true_eq_false, if_false, w1 (show i < 9223372036854775807 by omega)]
   by_cases h0 : (i : Int) > 0
   ·rw [if_pos h0, wrap_in (by omega) (by omega), if_pos (by omega), show ((i : Int) - 1).toNat = i - 1 by omega]
    obtain ⟨y, hy⟩ := get_at (l := l) (show i - 1 < l.length by omega)
    rw [hy, Option.bind_some, if_neg (by have := e (by omega) y hy; omega)]
   ·rw [if_neg h0]) (fun i hi hp => by
   obtain ⟨x, hx⟩ := get_at hi
   simp only [impl_ValidPages_l1_b, impl_isBlock, Int.ofNat_lt.2 hi, Int.natCast_nonneg, Int.toNat_natCast, hx, if_true, Option.bind_some, within_out, deq]
   by_cases a : 0 ≤ x.1 ∧ x.1 ≤ 255
   case neg => rw [if_pos a]
   rw [if_neg (by simpa using a)]
   by_cases h0 : (i : Int) > 0
   ·rw [if_pos h0, wrap_in (by omega) (by omega), if_pos (by omega), show ((i : Int) - 1).toNat = i - 1 by omega]
    obtain ⟨y, hy⟩ := get_at (l := l) (show i - 1 < l.length by omega)
    rw [hy, Option.bind_some]
    by_cases e : x.1 ≤ y.1
    ·rw [if_pos e]
    rw [if_neg e]
    by_cases c : (x.2.length : Int) = 64
    case neg => rw [if_pos c]
    exfalso; apply hp; intro x' hx'; rw [hx] at hx'; cases hx'
    exact ⟨a.1, a.2, by omega, fun _ y' hy' => by rw [hy] at hy'; cases hy'; omega⟩
   ·rw [if_neg h0]
    by_cases c : (x.2.length : Int) = 64
    case neg => rw [if_pos c]
    exfalso; apply hp; intro x' hx'; rw [hx] at hx'; cases hx'
    exact ⟨a.1, a.2, by omega, fun h => by omega⟩) (by simp [impl_ValidPages_l1_b])]
 by_cases h5 : ∀ i, i < l.length → PageV l i
 ·rw [if_pos h5]; simp only [Option.bind_some, Sum.elim_inl]; exact dI ⟨fun h => ⟨by omega, h5⟩, fun h => by have := h.1; omega⟩
 ·rw [if_neg h5]; exact dF fun h => h5 h.2
def WithinV (s : DSuper) (l : List (Int × Str)) : Prop := ∀ x ∈ l, 2 + s.2.1 ≤ x.1 ∧ x.1 ≤ s.1 - 1
theorem l11Within_out (s : DSuper) (l : List (Int × Str)) (hs : SuperV s) (hl : l.length ≤ 1048576) : spec_l11Within s l = some (@decide (WithinV s l) (Classical.propDecidable _)) := by
 have hs' := hs
 obtain ⟨a1, a2, a3, a4, a5, _⟩ := hs'
 unfold spec_l11Within
 unfold spec_l11Within_l1
 rw [loop_mem l (fun x => 2 + s.2.1 ≤ x.1 ∧ x.1 ≤ s.1 - 1) (fun t => spec_l11Within_l1_b l s t) (.inl ()) (.inr false) (fun i x hi hx hp => by
   have hx' := (List.getElem?_eq_some_iff.1 hx).2
   simp [spec_l11Within_l1_b, spec_l10Area, l00In_out, hi, hx', hp.1, hp.2, wrap_in (show -9223372036854775808 ≤ s.1 - 1 by omega) (by omega), wrap_in (show -9223372036854775808 ≤ 2 + s.2.1 by omega) (by omega), w1 (show i < 9223372036854775807 by omega)]) (fun i x hi hx hp => by
   have hx' := (List.getElem?_eq_some_iff.1 hx).2
   simp [spec_l11Within_l1_b, spec_l10Area, l00In_out, hi, hx', wrap_in (show -9223372036854775808 ≤ s.1 - 1 by omega) (by omega), wrap_in (show -9223372036854775808 ≤ 2 + s.2.1 by omega) (by omega)]
   intro a; omega) (by simp [spec_l11Within_l1_b])]
 by_cases h5 : ∀ x ∈ l, 2 + s.2.1 ≤ x.1 ∧ x.1 ≤ s.1 - 1
 ·rw [if_pos h5]; exact dT h5
 ·rw [if_neg h5]; exact dF h5
theorem inArea_out (s : DSuper) (l : List (Int × Str)) (hs : SuperV s) (hl : l.length ≤ 1048576) : impl_Super_inArea s l = some (@decide (WithinV s l) (Classical.propDecidable _)) := by
 have hs' := hs
 obtain ⟨a1, a2, a3, a4, a5, _⟩ := hs'
 have hA : impl_AreaBlock (s.1, s.2.1, s.2.2.1, s.2.2.2) = some (2 + s.2.1) := by
  unfold impl_AreaBlock
  rw [show (s.1, s.2.1, s.2.2.1, s.2.2.2) = s from rfl, iValidSuper_out]
  simp [hs, wrap_in (show -9223372036854775808 ≤ 2 + s.2.1 by omega) (by omega)]
 unfold impl_Super_inArea
 unfold slices_ContainsFunc_impl_Page_impl_Page__Super_inArea_c1 slices_IndexFunc_impl_Page_impl_Page__Super_inArea_c1 slices_IndexFunc_impl_Page_impl_Page__Super_inArea_c1_l1
 obtain ⟨r, hr, hx⟩ := loop_find l (fun x => 2 + s.2.1 ≤ x.1 ∧ x.1 ≤ s.1 - 1) (fun t => slices_IndexFunc_impl_Page_impl_Page__Super_inArea_c1_l1_b l s.1 s.2.1 s.2.2.1 s.2.2.2 l.length t) () (fun i x hi hx hp => by
   have hx' := (List.getElem?_eq_some_iff.1 hx).2
   simp [slices_IndexFunc_impl_Page_impl_Page__Super_inArea_c1_l1_b, impl_Super_inArea_c1, hA, within_out, hi, hx', hp.1, hp.2, wrap_in (show -9223372036854775808 ≤ s.1 - 1 by omega) (by omega), w1 (show i < 9223372036854775807 by omega)]) (fun i x hi hx hp => by
   have hx' := (List.getElem?_eq_some_iff.1 hx).2
   simp [slices_IndexFunc_impl_Page_impl_Page__Super_inArea_c1_l1_b, impl_Super_inArea_c1, hA, within_out, hi, hx', wrap_in (show -9223372036854775808 ≤ s.1 - 1 by omega) (by omega)]
   omega) (by simp [slices_IndexFunc_impl_Page_impl_Page__Super_inArea_c1_l1_b])
 rw [hr]
 rcases hx with ⟨rfl, h5⟩ | ⟨k, rfl, hk, h5⟩
 ·simp; exact h5
 ·simp [hk]; exact h5
def FitsV (s : DSuper) (n : Nat) : Prop := n ≤ 60 ∧ (n = 0 ∨ 1 + ((2 * n + 63) / 64 : Nat) + (n : Int) ≤ s.2.1)
theorem tableBlocks_out (n : Nat) (h : n ≤ 60) : impl_tableBlocks n = some (((2 * n + 63) / 64 : Nat) : Int) := by
 unfold impl_tableBlocks
 rw [wrap_in (n := 2 * (n : Int)) (by omega) (by omega), wrap_in (n := 2 * (n : Int) + 64) (by omega) (by omega), wrap_in (n := 2 * (n : Int) + 64 - 1) (by omega) (by omega)]
 rw [Int.tdiv_eq_ediv_of_nonneg (by omega), wrap_in (by omega) (by omega)]
 congr 1; omega
theorem l12Fits_out (s : DSuper) (n : Nat) : spec_l12Fits s n = some (@decide (FitsV s n) (Classical.propDecidable _)) := by
 unfold spec_l12Fits
 by_cases h0 : (n : Int) = 0
 ·rw [if_pos h0]; exact dT ⟨by omega, .inl (by omega)⟩
 rw [if_neg h0]
 by_cases h1 : (n : Int) ≤ 60
 ·rw [if_pos h1, spec_l11Blocks, show spec_l11Table n = some (((2 * n + 63) / 64 : Nat) : Int) from tableBlocks_out n (by omega)]
  simp only [Option.bind_some]
  rw [wrap_in (n := 1 + (((2 * n + 63) / 64 : Nat) : Int)) (by omega) (by omega), wrap_in (by omega) (by omega)]
  exact dI ⟨fun h => ⟨by omega, .inr h⟩, fun h => by rcases h.2 with h | h; omega; exact h⟩
 ·rw [if_neg h1]; exact dF fun h => by have := h.1; omega
theorem fits_out (s : DSuper) (n : Nat) (hs : SuperV s) : impl_Super_fits s n = some (@decide (FitsV s n) (Classical.propDecidable _)) := by
 unfold impl_Super_fits
 obtain ⟨a1, a2, a3, a4, a5, _⟩ := hs
 by_cases h1 : (n : Int) ≤ 60
 ·rw [if_pos h1, impl_RecordBlocks, within_out, Option.bind_some]
  by_cases h0 : n = 0
  ·subst h0; rw [if_pos (by simp)]; exact dI ⟨fun _ => ⟨by omega, .inl rfl⟩, fun _ => by omega⟩
  rw [if_neg (by simp; omega), tableBlocks_out n (by omega)]
  simp only [Option.bind_some]
  rw [wrap_in (n := 1 + (((2 * n + 63) / 64 : Nat) : Int)) (by omega) (by omega), wrap_in (by omega) (by omega)]
  exact dI ⟨fun h => ⟨by omega, .inr h⟩, fun h => by rcases h.2 with h | h; omega; exact h⟩
 ·rw [if_neg h1]; exact dF fun h => by have := h.1; omega
def PagerV (a : DPager) : Prop := DiskV a.1 ∧ ((a.1.2.1.length : Int) > 1 → a.1.2.2.2 = true) ∧ SuperV a.2.1 ∧ a.2.1.1 = (a.1.1.length : Int) ∧ (a.2.1.2.2.1 ≤ a.2.2.1 ∧ a.2.2.1 ≤ 1000000000000) ∧ (0 ≤ a.2.2.2.1 ∧ a.2.2.2.1 ≤ a.2.1.2.1) ∧ PagesV a.2.2.2.2.1 ∧ PagesV a.2.2.2.2.2 ∧ WithinV a.2.1 a.2.2.2.2.1 ∧ WithinV a.2.1 a.2.2.2.2.2 ∧ FitsV a.2.1 a.2.2.2.2.2.length
open Classical in
theorem l12Ok_p1_out (s : DSuper) (v4 : List Str) (v5 : List (Int × Str)) (v6 : Int) (v7 : Bool) (c d : Int) (l m : List (Int × Str)) (hs : SuperV s) (hl : l.length ≤ 1048576) (hm : m.length ≤ 1048576) :
  spec_l12Ok_p1 v4 v5 v6 v7 s.1 s.2.1 s.2.2.1 s.2.2.2 c d l m s = some (@decide ((s.2.2.1 ≤ c ∧ c ≤ 1000000000000) ∧ (0 ≤ d ∧ d ≤ s.2.1) ∧ PagesV l ∧ PagesV m ∧ WithinV s l ∧ WithinV s m ∧ FitsV s m.length) (Classical.propDecidable _)) := by
 unfold spec_l12Ok_p1
 simp only [show (s.1, s.2.1, s.2.2.1, s.2.2.2) = s from rfl, l00In_out, l11Pages_out _ hl, l11Pages_out _ hm, l11Within_out s _ hs hl, l11Within_out s _ hs hm, l12Fits_out, Option.bind_some, deq]
 split
 ·rename_i h; exact dF fun q => h q.1
 split
 ·rename_i h; exact dF fun q => h q.2.1
 split
 ·rename_i h; exact dF fun q => h q.2.2.1
 split
 ·rename_i h; exact dF fun q => h q.2.2.2.1
 split
 ·rename_i h; exact dF fun q => h q.2.2.2.2.1
 split
 ·rename_i h; exact dF fun q => h q.2.2.2.2.2.1
 rename_i h1 h2 h3 h4 h5 h6
 exact dI ⟨fun q => ⟨Classical.not_not.1 h1, Classical.not_not.1 h2, Classical.not_not.1 h3, Classical.not_not.1 h4, Classical.not_not.1 h5, Classical.not_not.1 h6, q⟩, fun q => q.2.2.2.2.2.2⟩
open Classical in
theorem ValidPager_p1_out (a : DDisk) (s : DSuper) (c d : Int) (l m : List (Int × Str)) (hs : SuperV s) (hl : l.length ≤ 1048576) (hm : m.length ≤ 1048576) :
  impl_ValidPager_p1 (a, s, c, d, l, m) = some (@decide (PagesV l ∧ PagesV m ∧ WithinV s l ∧ WithinV s m ∧ FitsV s m.length) (Classical.propDecidable _)) := by
 unfold impl_ValidPager_p1
 simp only [show (s.1, s.2.1, s.2.2.1, s.2.2.2) = s from rfl, ValidPages_out _ hl, ValidPages_out _ hm, inArea_out s _ hs hl, inArea_out s _ hs hm, fits_out s _ hs, Option.bind_some, deq]
 by_cases h1 : PagesV l
 case neg => rw [if_neg h1]; exact dF fun q => h1 q.1
 rw [if_pos h1]
 by_cases h2 : PagesV m
 case neg => rw [if_neg h2]; exact dF fun q => h2 q.2.1
 rw [if_pos h2]
 by_cases h3 : WithinV s l
 case neg => rw [if_neg h3]; exact dF fun q => h3 q.2.2.1
 rw [if_pos h3]
 by_cases h4 : WithinV s m
 case neg => rw [if_neg h4]; exact dF fun q => h4 q.2.2.2.1
 rw [if_pos h4]
 exact dI ⟨fun q => ⟨h1, h2, h3, h4, q⟩, fun q => q.2.2.2.2⟩
open Classical in
theorem l12Ok_out (a : DPager) (h : PagerIn a 1048576) : spec_l12Ok a = some (@decide (PagerV a) (Classical.propDecidable _)) := by
 unfold spec_l12Ok PagerV
 simp only [l09Ok_out, sValidSuper_out, Option.bind_some, deq, bind_some']
 by_cases h1 : DiskV a.1
 case neg => rw [if_pos h1]; exact dF fun q => h1 q.1
 rw [if_neg (by simpa using h1)]
 by_cases h3 : SuperV a.2.1
 case neg =>
  simp only [h3, not_false_eq_true, if_true]; split
  ·split <;> exact dF fun q => q.2.2.1
  ·exact dF fun q => q.2.2.1
 simp only [h3, not_true_eq_false, if_false]
 rw [l12Ok_p1_out _ _ _ _ _ _ _ _ _ h3 h.2.2.1 h.2.2.2]
 split
 ·rename_i h4; split
  ·rename_i h5; exact dF fun q => h5 (q.2.1 h4)
  ·rename_i h5; split
   ·rename_i h6; exact dF fun q => h6 q.2.2.2.1
   ·rename_i h6; exact dI ⟨fun q => ⟨h1, fun _ => Classical.not_not.1 h5, trivial, Classical.not_not.1 h6, q⟩, fun q => q.2.2.2.2⟩
 ·rename_i h4; split
  ·rename_i h6; exact dF fun q => h6 q.2.2.2.1
  ·rename_i h6; exact dI ⟨fun q => ⟨h1, fun r => absurd r h4, trivial, Classical.not_not.1 h6, q⟩, fun q => q.2.2.2.2⟩
open Classical in
theorem ValidPager_out (a : DPager) (h : PagerIn a 1048576) : impl_ValidPager a = some (@decide (PagerV a) (Classical.propDecidable _)) := by
 unfold impl_ValidPager PagerV
 simp only [superFits_out, within_out, Option.bind_some, deq, bind_some']
 by_cases h1 : DiskV a.1 ∧ SuperV a.2.1 ∧ a.2.1.1 = (a.1.1.length : Int)
 case neg => rw [if_pos h1]; exact dF fun q => h1 ⟨q.1, q.2.2.1, q.2.2.2.1⟩
 rw [if_neg (by simpa using h1), ValidPager_p1_out _ _ _ _ _ _ h1.2.1 h.2.2.1 h.2.2.2]
 by_cases h2 : a.2.1.2.2.1 ≤ a.2.2.1 ∧ a.2.2.1 ≤ 1000000000000
 case neg =>
  simp only [h2, not_false_eq_true, if_true]; split
  ·split <;> exact dF fun q => q.2.2.2.2.1
  ·exact dF fun q => q.2.2.2.2.1
 simp only [h2, not_true_eq_false, if_false]
 by_cases h3 : 0 ≤ a.2.2.2.1 ∧ a.2.2.2.1 ≤ a.2.1.2.1
 case neg =>
  simp only [h3, not_false_eq_true, if_true]; split
  ·split <;> exact dF fun q => q.2.2.2.2.2.1
  ·exact dF fun q => q.2.2.2.2.2.1
 simp only [h3, not_true_eq_false, if_false]
 split
 ·rename_i h4; split
  ·rename_i h5; exact dF fun q => h5 (q.2.1 h4)
  ·rename_i h5; exact dI ⟨fun q => ⟨h1.1, fun _ => Classical.not_not.1 h5, h1.2.1, h1.2.2, ⟨trivial, trivial⟩, ⟨trivial, trivial⟩, q⟩, fun q => q.2.2.2.2.2.2⟩
 ·rename_i h4; exact dI ⟨fun q => ⟨h1.1, fun r => absurd r h4, h1.2.1, h1.2.2, ⟨trivial, trivial⟩, ⟨trivial, trivial⟩, q⟩, fun q => q.2.2.2.2.2.2⟩
theorem pagerOk_of {a : DPager} (h : Gd.ok a) : PagerOk a := ⟨strsOk_of h.1.1, putsOk_of h.1.2.1, putsOk_of h.2.2.2.2.1, putsOk_of h.2.2.2.2.2⟩
theorem pg_eta (p : DPager) : ((p.1.1, p.1.2.1, p.1.2.2.1, p.1.2.2.2), (p.2.1.1, p.2.1.2.1, p.2.1.2.2.1, p.2.1.2.2.2), p.2.2.1, p.2.2.2.1, p.2.2.2.2.1, p.2.2.2.2.2) = p := rfl
end Go.Proofs.TM
namespace Go.Proofs.TM
open Go Go.Proofs
set_option linter.unusedVariables false
set_option linter.unusedSimpArgs false
set_option maxHeartbeats 1000000
theorem markPager_mk (a : DPager) (h : PagerIn a 1048576) : ∃ r, laws_markPager_o71 a.1.1 a.1.2.1 a.1.2.2.1 a.1.2.2.2 a.2.1.1 a.2.1.2.1 a.2.1.2.2.1 a.2.1.2.2.2 a.2.2.1 a.2.2.2.1 a.2.2.2.2.1 a.2.2.2.2.2 1 = some r ∧ r.1.length = a.1.1.length ∧ r.2.1.length = a.1.2.1.length ∧ r.2.2.1.length = a.2.2.2.2.1.length ∧ r.2.2.2.1.length = a.2.2.2.2.2.length ∧ 0 ≤ r.2.2.2.2 := by
 obtain ⟨h1, h2, h3, h4⟩ := h
 have hpg : ∀ (l : List (Int × Str)) (h : l.length ≤ 1048576) (K : Int) (h0 : 0 ≤ K) (hK : K ≤ 1073741824), ∃ m, laws_markPageS_o2a l K = some (m, K + 2 * l.length) ∧ m.length = l.length ∧ Marked ePut 2 K m := fun l h K h0 hK => markPutS_out l h K h0 hK
 obtain ⟨m1, e1, l1, q1⟩ := markStringS_out a.1.1 h1 1 (by omega) (by omega)
 obtain ⟨m2, e2, l2, q2⟩ := markPutS_out a.1.2.1 h2 (1 + a.1.1.length) (by omega) (by omega)
 obtain ⟨m3, e3, l3, q3⟩ := hpg a.2.2.2.2.1 h3 (1 + a.1.1.length + 2 * a.1.2.1.length) (by omega) (by omega)
 obtain ⟨m4, e4, l4, q4⟩ := hpg a.2.2.2.2.2 h4 (1 + a.1.1.length + 2 * a.1.2.1.length + 2 * a.2.2.2.2.1.length) (by omega) (by omega)
 refine ⟨(m1, m2, m3, m4, 1 + a.1.1.length + 2 * a.1.2.1.length + 2 * a.2.2.2.2.1.length + 2 * a.2.2.2.2.2.length), ?_, l1, l2, l3, l4, by simp only; omega⟩
 simp only [laws_markPager_o71, laws_markDisk_o3e, e1, e2, l1, l2, fixLen_eq, Option.bind_some, if_true, and_self, e3, l3, e4, l4]
abbrev POut := DPager × Int
abbrev outPg (p : DPager) (c : Int) : POut := (p, c)
def noPg : DPager := (([], [], 0, false), (0, 0, 0, 0), 0, 0, [], [])
theorem noPg_in : PagerIn noPg 1048576 := ⟨by simp [noPg], by simp [noPg], by simp [noPg], by simp [noPg]⟩
end Go.Proofs.TM
namespace Go.Proofs.TM
open Go Go.Proofs
set_option linter.unusedVariables false
set_option linter.unusedSimpArgs false
set_option maxHeartbeats 1000000
theorem markPager_le (a : DPager) (h : PagerIn a 1048576) : ∃ r, laws_markPager_o71 a.1.1 a.1.2.1 a.1.2.2.1 a.1.2.2.2 a.2.1.1 a.2.1.2.1 a.2.1.2.2.1 a.2.1.2.2.2 a.2.2.1 a.2.2.2.1 a.2.2.2.2.1 a.2.2.2.2.2 1 = some r ∧ r.1.length = a.1.1.length ∧ r.2.1.length = a.1.2.1.length ∧ r.2.2.1.length = a.2.2.2.2.1.length ∧ r.2.2.2.1.length = a.2.2.2.2.2.length ∧ ¬r.2.2.2.2 < 0 ∧
  laws_heldPager ((fixLen a.1.1 r.1, fixLen a.1.2.1 r.2.1, a.1.2.2.1, a.1.2.2.2), (a.2.1.1, a.2.1.2.1, a.2.1.2.2.1, a.2.1.2.2.2), a.2.2.1, a.2.2.2.1, fixLen a.2.2.2.2.1 r.2.2.1, fixLen a.2.2.2.2.2 r.2.2.2.1) 1 = some r.2.2.2.2 ∧ r.2.2.2.2 ≤ 1073741824 := by
 obtain ⟨h1, h2, h3, h4⟩ := h
 have hpg : ∀ (l : List (Int × Str)) (h : l.length ≤ 1048576) (K : Int) (h0 : 0 ≤ K) (hK : K ≤ 1073741824), ∃ m, laws_markPageS_o2a l K = some (m, K + 2 * l.length) ∧ m.length = l.length ∧ Marked ePut 2 K m := fun l h K h0 hK => markPutS_out l h K h0 hK
 have hhl : ∀ (l : List (Int × Str)) (h : l.length ≤ 1048576) (K : Int) (h0 : 0 ≤ K) (hK : K ≤ 1073741824) (hm : Marked ePut 2 K l), laws_heldPageS l K = some (K + 2 * l.length) := fun l h K h0 hK hm => heldPutS_out l h K h0 hK hm
 obtain ⟨m1, e1, l1, q1⟩ := markStringS_out a.1.1 h1 1 (by omega) (by omega)
 obtain ⟨m2, e2, l2, q2⟩ := markPutS_out a.1.2.1 h2 (1 + a.1.1.length) (by omega) (by omega)
 obtain ⟨m3, e3, l3, q3⟩ := hpg a.2.2.2.2.1 h3 (1 + a.1.1.length + 2 * a.1.2.1.length) (by omega) (by omega)
 obtain ⟨m4, e4, l4, q4⟩ := hpg a.2.2.2.2.2 h4 (1 + a.1.1.length + 2 * a.1.2.1.length + 2 * a.2.2.2.2.1.length) (by omega) (by omega)
 refine ⟨(m1, m2, m3, m4, 1 + a.1.1.length + 2 * a.1.2.1.length + 2 * a.2.2.2.2.1.length + 2 * a.2.2.2.2.2.length), ?_, l1, l2, l3, l4, by simp only; omega, ?_, by simp only; omega⟩
 ·simp only [laws_markPager_o71, laws_markDisk_o3e, e1, e2, l1, l2, fixLen_eq, Option.bind_some, if_true, and_self, e3, l3, e4, l4]
 ·have g1 := heldStringS_out m1 (by omega) 1 (by omega) (by omega) q1
  have g2 := heldPutS_out m2 (by omega) (1 + a.1.1.length) (by omega) (by omega) q2
  have g3 := hhl m3 (by omega) (1 + a.1.1.length + 2 * a.1.2.1.length) (by omega) (by omega) q3
  have g4 := hhl m4 (by omega) (1 + a.1.1.length + 2 * a.1.2.1.length + 2 * a.2.2.2.2.1.length) (by omega) (by omega) q4
  rw [l1] at g1; rw [l2] at g2; rw [l3] at g3; rw [l4] at g4
  simp only [laws_heldPager, laws_heldDisk, fixLen_eq l1, fixLen_eq l2, fixLen_eq l3, fixLen_eq l4, g1, g2, Option.bind_some]
  rw [if_neg (by omega), if_neg (by omega), Option.bind_some, if_neg (by omega), g3, Option.bind_some, if_neg (by omega), g4, Option.bind_some, if_neg (by omega)]
theorem markPager_out (a : DPager) (h : PagerIn a 1048576) : ∃ r, laws_markPager_o71 a.1.1 a.1.2.1 a.1.2.2.1 a.1.2.2.2 a.2.1.1 a.2.1.2.1 a.2.1.2.2.1 a.2.1.2.2.2 a.2.2.1 a.2.2.2.1 a.2.2.2.2.1 a.2.2.2.2.2 1 = some r ∧ r.1.length = a.1.1.length ∧ r.2.1.length = a.1.2.1.length ∧ r.2.2.1.length = a.2.2.2.2.1.length ∧ r.2.2.2.1.length = a.2.2.2.2.2.length ∧ ¬r.2.2.2.2 < 0 ∧
  laws_heldPager ((fixLen a.1.1 r.1, fixLen a.1.2.1 r.2.1, a.1.2.2.1, a.1.2.2.2), (a.2.1.1, a.2.1.2.1, a.2.1.2.2.1, a.2.1.2.2.2), a.2.2.1, a.2.2.2.1, fixLen a.2.2.2.2.1 r.2.2.1, fixLen a.2.2.2.2.2 r.2.2.2.1) 1 = some r.2.2.2.2 := by
 obtain ⟨r, a, b, c, d, e, f, g, _⟩ := markPager_le a h
 exact ⟨r, a, b, c, d, e, f, g⟩
end Go.Proofs.TM
namespace Go.Proofs.TM
open Go Go.Proofs
set_option linter.unusedVariables false
set_option linter.unusedSimpArgs false
set_option maxHeartbeats 1000000
theorem l12Own_out (p : DPager) (h : PagerIn p 1048576) : spec_l12Own p = some p := by
 obtain ⟨h1, h2, h3, h4⟩ := h
 unfold spec_l12Own spec_l09Own spec_l12Pages
 rw [appL_nil 16 _ (by unfold maxRow; omega), appL_nil 24 _ (by unfold maxRow; omega), appL_nil 24 _ (by unfold maxRow; omega), appL_nil 24 _ (by unfold maxRow; omega)]
 rfl
theorem clone_out (p : DPager) (h : PagerIn p 1048576) : impl_Pager_clone p = some p := by
 obtain ⟨h1, h2, h3, h4⟩ := h
 unfold impl_Pager_clone impl_Disk_clone slices_Clone_impl_Page_impl_Page_ slices_Clone_impl_Put_impl_Put_ slices_Clone_string_string_
 rw [appL_nil 16 _ (by unfold maxRow; omega), appL_nil 24 _ (by unfold maxRow; omega), appL_nil 24 _ (by unfold maxRow; omega), appL_nil 24 _ (by unfold maxRow; omega)]
 rfl
end Go.Proofs.TM
