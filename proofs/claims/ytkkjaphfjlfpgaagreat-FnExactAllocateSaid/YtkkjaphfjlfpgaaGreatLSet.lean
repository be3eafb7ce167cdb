/- Setting a page of a transaction: a list of pages with one laid in. -/
import Derived.Test.YtkkjaphfjlfpgaaGreatLPageAt
import Derived.Test.YtkkjaphfjlfpgaaGreatLOwn
namespace Go.Proofs.TM
open Go Go.Proofs
set_option linter.unusedVariables false
set_option linter.unusedSimpArgs false
set_option maxHeartbeats 1000000

/-- The pages of two lists; where both have a block, the second's. -/
def mrg : List (Int × Str) → List (Int × Str) → List (Int × Str)
  | a, [] => a
  | [], y :: b => y :: b
  | x :: a, y :: b => if x.1 < y.1 then x :: mrg a (y :: b) else if x.1 = y.1 then y :: mrg a b else y :: mrg (x :: a) b
termination_by a b => a.length + b.length

theorem mrg_nil (a : List (Int × Str)) : mrg a [] = a := by cases a <;> simp [mrg]
theorem nil_mrg (b : List (Int × Str)) : mrg [] b = b := by cases b <;> simp [mrg]
theorem mrg_cons (x y : Int × Str) (a b : List (Int × Str)) : mrg (x :: a) (y :: b) = if x.1 < y.1 then x :: mrg a (y :: b) else if x.1 = y.1 then y :: mrg a b else y :: mrg (x :: a) b := by rw [mrg]

theorem dropG {α : Type} {l : List α} {i : Nat} {x : α} (h : l[i]? = some x) : l.drop i = x :: l.drop (i + 1) := by
  have hi := (List.getElem?_eq_some_iff.1 h).1
  have hx := (List.getElem?_eq_some_iff.1 h).2
  rw [← hx, List.getElem_cons_drop]

theorem happ24 (l : List (Int × Str)) (x : Int × Str) (h : l.length ≤ 4194304) : appL 24 l (lit [x]) = some (l ++ [x]) := by unfold appL lit; rw [if_pos (by simp [maxRow]; omega)]

theorem l11Merge_out (a b : List (Int × Str)) (ha : a.length ≤ 1048576) (hb : b.length ≤ 1048576) : spec_l11Merge a b = some (mrg a b) := by
  unfold spec_l11Merge spec_l11Merge_l1
  obtain ⟨r, hr, rfl⟩ := loop_meas (f := fun s => spec_l11Merge_l1_b s.1 s.2.1 s.2.2.1 s.2.2.2.1 s.2.2.2.2) (fun r => r = mrg a b) (fun s => (a.length - s.2.2.2.1.toNat) + (b.length - s.2.2.2.2.toNat))
    (fun s => ∃ (o : List (Int × Str)) (i j : Nat), s = (a, b, o, (i : Int), (j : Int)) ∧ i ≤ a.length ∧ j ≤ b.length ∧ o.length ≤ i + j ∧ o ++ mrg (a.drop i) (b.drop j) = mrg a b)
    (fun s hs => by
      obtain ⟨o, i, j, rfl, hi, hj, ho, hm⟩ := hs
      simp only [spec_l11Merge_l1_b]
      -- the three ways to go on
      have goA : ∀ x, a[i]? = some x → i < a.length → mrg (a.drop i) (b.drop j) = x :: mrg (a.drop (i + 1)) (b.drop j) → spec_l11Merge_p3 a b o (i : Int) (j : Int) = some (a, b, o ++ [x], ((i + 1 : Nat) : Int), (j : Int)) ∧
          (o ++ [x]).length ≤ (i + 1) + j ∧ (o ++ [x]) ++ mrg (a.drop (i + 1)) (b.drop j) = mrg a b := fun x hx hia he => by
        refine ⟨?_, by simp; omega, by rw [← hm, he]; simp⟩
        unfold spec_l11Merge_p3
        rw [if_pos (by omega), Int.toNat_natCast, hx, Option.bind_some, happ24 _ _ (by omega), Option.bind_some, w1 (by omega)]; rfl
      have goB : ∀ (i' : Nat) y, b[j]? = some y → j < b.length → i' ≤ i + 1 → mrg (a.drop i) (b.drop j) = y :: mrg (a.drop i') (b.drop (j + 1)) → i ≤ i' → spec_l11Merge_p5 a b o (i' : Int) (j : Int) = some (a, b, o ++ [y], (i' : Int), ((j + 1 : Nat) : Int)) ∧
          (o ++ [y]).length ≤ i' + (j + 1) ∧ (o ++ [y]) ++ mrg (a.drop i') (b.drop (j + 1)) = mrg a b := fun i' y hy hjb hi' he hii => by
        refine ⟨?_, by simp; omega, by rw [← hm, he]; simp⟩
        unfold spec_l11Merge_p5
        rw [if_pos (by omega), Int.toNat_natCast, hy, Option.bind_some, happ24 _ _ (by omega), Option.bind_some, w1 (by omega)]; rfl
      have p4 : ∀ y, b[j]? = some y → j < b.length → (∀ x, a[i]? = some x → ¬ x.1 < y.1) → ∃ (o' : List (Int × Str)) (i' : Nat), spec_l11Merge_p4 a b o (i : Int) (j : Int) = some (a, b, o', (i' : Int), ((j + 1 : Nat) : Int)) ∧ i ≤ i' ∧ i' ≤ a.length ∧ o'.length ≤ i' + (j + 1) ∧
          o' ++ mrg (a.drop i') (b.drop (j + 1)) = mrg a b := fun y hy hjb hx0 => by
        unfold spec_l11Merge_p4
        by_cases hia : i < a.length
        · obtain ⟨x, hx⟩ := get_at hia
          have hlt := hx0 x hx
          rw [if_pos (by omega), if_pos (by omega), Int.toNat_natCast, hx, Option.bind_some, if_pos (by omega), Int.toNat_natCast, hy, Option.bind_some]
          by_cases he : x.1 = y.1
          · rw [if_pos he, w1 (by omega)]
            obtain ⟨q1, q2, q3⟩ := goB (i + 1) y hy hjb (by omega) (by rw [dropG hx, dropG hy, mrg_cons, if_neg hlt, if_pos he]) (by omega)
            rw [show ((i : Int) + 1) = ((i + 1 : Nat) : Int) by omega, q1]
            exact ⟨_, i + 1, rfl, by omega, by omega, q2, q3⟩
          · rw [if_neg he]
            obtain ⟨q1, q2, q3⟩ := goB i y hy hjb (by omega) (by rw [dropG hx, dropG hy, mrg_cons, if_neg hlt, if_neg he]) (by omega)
            rw [q1]
            exact ⟨_, i, rfl, by omega, by omega, q2, q3⟩
        · rw [if_neg (by omega)]
          have hd : a.drop i = [] := List.drop_eq_nil_of_le (by omega)
          obtain ⟨q1, q2, q3⟩ := goB i y hy hjb (by omega) (by rw [hd, dropG hy, nil_mrg, nil_mrg]) (by omega)
          rw [q1]
          exact ⟨_, i, rfl, by omega, by omega, q2, q3⟩
      have p2 : i < a.length ∨ j < b.length → ∃ (o' : List (Int × Str)) (i' j' : Nat), spec_l11Merge_p2 a b o (i : Int) (j : Int) = some (a, b, o', (i' : Int), (j' : Int)) ∧ i' ≤ a.length ∧ j' ≤ b.length ∧ o'.length ≤ i' + j' ∧ (a.length - i') + (b.length - j') < (a.length - i) + (b.length - j) ∧
          o' ++ mrg (a.drop i') (b.drop j') = mrg a b := fun hor => by
        unfold spec_l11Merge_p2
        by_cases hjb : j = b.length
        · obtain ⟨x, hx⟩ := get_at (l := a) (i := i) (by omega)
          obtain ⟨q1, q2, q3⟩ := goA x hx (by omega) (by rw [List.drop_eq_nil_of_le (by omega : b.length ≤ j), mrg_nil, mrg_nil, dropG hx])
          rw [if_pos (by omega), q1]
          exact ⟨_, i + 1, j, rfl, by omega, hj, q2, by omega, q3⟩
        · obtain ⟨y, hy⟩ := get_at (l := b) (i := j) (by omega)
          rw [if_neg (by omega)]
          by_cases hia : i < a.length
          · obtain ⟨x, hx⟩ := get_at hia
            rw [if_pos (by omega), if_pos (by omega), Int.toNat_natCast, hx, Option.bind_some, if_pos (by omega), Int.toNat_natCast, hy, Option.bind_some]
            by_cases hlt : x.1 < y.1
            · obtain ⟨q1, q2, q3⟩ := goA x hx hia (by rw [dropG hx, dropG hy, mrg_cons, if_pos hlt])
              rw [if_pos hlt, q1]
              exact ⟨_, i + 1, j, rfl, by omega, hj, q2, by omega, q3⟩
            · obtain ⟨o', i', q1, q2, q3, q4, q5⟩ := p4 y hy (by omega) (fun z hz => by rw [hx] at hz; cases hz; exact hlt)
              rw [if_neg hlt, q1]
              exact ⟨o', i', j + 1, rfl, q3, by omega, q4, by omega, q5⟩
          · obtain ⟨o', i', q1, q2, q3, q4, q5⟩ := p4 y hy (by omega) (fun z hz => by have := (List.getElem?_eq_some_iff.1 hz).1; omega)
            rw [if_neg (by omega), q1]
            exact ⟨o', i', j + 1, rfl, q3, by omega, q4, by omega, q5⟩
      by_cases hia : i < a.length
      · obtain ⟨o', i', j', q1, q2, q3, q4, q5, q6⟩ := p2 (.inl hia)
        rw [if_pos (by omega), q1]
        exact .inr ⟨_, rfl, ⟨o', i', j', rfl, q2, q3, q4, q6⟩, by simp only [Int.toNat_natCast]; exact q5⟩
      · rw [if_neg (by omega)]
        by_cases hjb : j < b.length
        · obtain ⟨o', i', j', q1, q2, q3, q4, q5, q6⟩ := p2 (.inr hjb)
          rw [if_pos (by omega), q1]
          exact .inr ⟨_, rfl, ⟨o', i', j', rfl, q2, q3, q4, q6⟩, by simp only [Int.toNat_natCast]; exact q5⟩
        · rw [if_neg (by omega)]
          refine .inl ⟨_, rfl, ?_⟩
          rw [List.drop_eq_nil_of_le (by omega), List.drop_eq_nil_of_le (by omega), mrg_nil, List.append_nil] at hm
          exact hm) _ (a, b, [], 0, 0) rfl ⟨[], 0, 0, rfl, Nat.zero_le _, Nat.zero_le _, by simp, by simp⟩
  rw [hr, Option.bind_some]

/-- A page laid into a list that rises. -/
def setL : List (Int × Str) → Int → Str → List (Int × Str)
  | [], k, d => [(k, d)]
  | x :: l, k, d => if x.1 < k then x :: setL l k d else if x.1 = k then (k, d) :: l else (k, d) :: x :: l
theorem mrg_one (k : Int) (d : Str) : ∀ l : List (Int × Str), mrg l [(k, d)] = setL l k d
  | [] => by rw [nil_mrg]; rfl
  | x :: l => by rw [mrg_cons, mrg_nil, mrg_nil, mrg_one k d l]; rfl

theorem setL_at (k : Int) (d : Str) : ∀ (l : List (Int × Str)) (i : Nat), i ≤ l.length → (∀ j y, j < i → l[j]? = some y → y.1 < k) → (∀ j y, i ≤ j → l[j]? = some y → k ≤ y.1) →
    setL l k d = match l[i]? with | some x => if x.1 = k then l.set i (k, d) else l.take i ++ (k, d) :: l.drop i | none => l.take i ++ (k, d) :: l.drop i
  | [], i, hi, h1, h2 => by
    have : i = 0 := by simpa using hi
    subst this; rfl
  | x :: l, 0, hi, h1, h2 => by
    have hx := h2 0 x (Nat.le_refl _) rfl
    simp only [setL, List.getElem?_cons_zero]
    rw [if_neg (by omega)]
    split <;> simp
  | x :: l, i + 1, hi, h1, h2 => by
    have hx := h1 0 x (by omega) rfl
    have ih := setL_at k d l i (by simpa using hi) (fun j y hj hy => h1 (j + 1) y (by omega) (by simpa using hy)) (fun j y hj hy => h2 (j + 1) y (by omega) (by simpa using hy))
    simp only [setL, if_pos hx, List.getElem?_cons_succ, ih]
    split
    · split <;> simp
    · simp

theorem setL_len (k : Int) (d : Str) : ∀ l : List (Int × Str), (setL l k d).length ≤ l.length + 1
  | [] => by simp [setL]
  | x :: l => by
    have := setL_len k d l
    simp only [setL]
    split
    · simp; omega
    · split <;> simp

/-- Valid lists: bounds, and rising. -/
theorem pagesV_iff (l : List (Int × Str)) : PagesV l ↔ l.length ≤ 256 ∧ (∀ x ∈ l, 0 ≤ x.1 ∧ x.1 ≤ 255 ∧ x.2.length = 64) ∧ l.Pairwise (fun x y => x.1 < y.1) := by
  constructor
  · intro h
    refine ⟨h.1, fun x hx => ?_, ?_⟩
    · obtain ⟨i, hi, rfl⟩ := List.mem_iff_getElem.1 hx
      have := h.2 i hi _ (List.getElem?_eq_getElem hi)
      exact ⟨this.1, this.2.1, this.2.2.1⟩
    · rw [List.pairwise_iff_getElem]
      intro i j hi hj hij
      exact h.rise j i _ _ hij (List.getElem?_eq_getElem hi) (List.getElem?_eq_getElem hj)
  · rintro ⟨h1, h2, h3⟩
    refine ⟨h1, fun i hi x hx => ?_⟩
    obtain ⟨b1, b2, b3⟩ := h2 x (List.mem_of_getElem? hx)
    refine ⟨b1, b2, b3, fun hi0 y hy => ?_⟩
    rw [List.pairwise_iff_getElem] at h3
    have hx' := (List.getElem?_eq_some_iff.1 hx).2
    have hy' := (List.getElem?_eq_some_iff.1 hy).2
    have := h3 (i - 1) i (by omega) hi (by omega)
    rw [hx', hy'] at this
    exact this

theorem mem_setL (k : Int) (d : Str) : ∀ (l : List (Int × Str)) (x : Int × Str), x ∈ setL l k d → x = (k, d) ∨ x ∈ l
  | [], x, h => by simpa [setL] using h
  | y :: l, x, h => by
    simp only [setL] at h
    split at h
    · rcases List.mem_cons.1 h with h | h
      · exact .inr (by simp [h])
      · rcases mem_setL k d l x h with h | h
        · exact .inl h
        · exact .inr (by simp [h])
    · split at h
      · rcases List.mem_cons.1 h with h | h
        · exact .inl h
        · exact .inr (by simp [h])
      · rcases List.mem_cons.1 h with h | h
        · exact .inl h
        · exact .inr h

theorem setL_rise (k : Int) (d : Str) : ∀ l : List (Int × Str), l.Pairwise (fun x y => x.1 < y.1) → (setL l k d).Pairwise (fun x y => x.1 < y.1)
  | [], _ => by simp [setL]
  | y :: l, h => by
    obtain ⟨h1, h2⟩ := List.pairwise_cons.1 h
    simp only [setL]
    split
    · rename_i hlt
      refine List.pairwise_cons.2 ⟨fun x hx => ?_, setL_rise k d l h2⟩
      rcases mem_setL k d l x hx with rfl | hx
      · exact hlt
      · exact h1 x hx
    · split
      · rename_i hlt he
        exact List.pairwise_cons.2 ⟨fun x hx => by have := h1 x hx; simp only; omega, h2⟩
      · rename_i hlt he
        refine List.pairwise_cons.2 ⟨fun x hx => ?_, h⟩
        rcases List.mem_cons.1 hx with rfl | hx
        · simp only; omega
        · have := h1 x hx; simp only; omega

theorem setL_pagesV {l : List (Int × Str)} {k : Int} {d : Str} (h : PagesV l) (h0 : 0 ≤ k) (h1 : k ≤ 255) (hd : d.length = 64) (hn : (setL l k d).length ≤ 256) : PagesV (setL l k d) := by
  obtain ⟨g1, g2, g3⟩ := (pagesV_iff l).1 h
  refine (pagesV_iff _).2 ⟨hn, fun x hx => ?_, setL_rise k d l g3⟩
  rcases mem_setL k d l x hx with rfl | hx
  · exact ⟨h0, h1, hd⟩
  · exact g2 x hx

theorem setL_length {l : List (Int × Str)} {k : Int} {d : Str} {i : Nat} (hv : PagesV l) (hi : i ≤ l.length) (h1 : ∀ j y, j < i → l[j]? = some y → y.1 < k) (h2 : ∀ j y, i ≤ j → l[j]? = some y → k ≤ y.1) :
    (setL l k d).length = if (pgF l k).isSome then l.length else l.length + 1 := by
  rw [setL_at k d l i hi h1 h2]
  cases hx : l[i]? with
  | none =>
    have hn : pgF l k = none := find_no fun j y hy => by
      have hj := (List.getElem?_eq_some_iff.1 hy).1
      have := List.getElem?_eq_none_iff.1 hx
      have := h1 j y (by omega) hy; omega
    simp [hn]; omega
  | some x =>
    by_cases hk : x.1 = k
    · have : pgF l k = some x := find_at hx hk fun j y hj hy => by have := h1 j y hj hy; omega
      simp [hk, this]
    · have hn : pgF l k = none := by
        unfold pgF
        rw [List.find?_eq_none]
        intro z hz
        obtain ⟨j, hj, rfl⟩ := List.mem_iff_getElem.1 hz
        simp only [decide_eq_true_eq]
        intro he
        have hjx := List.getElem?_eq_getElem hj
        by_cases hji : j < i
        · have := h1 j _ hji hjx; omega
        · have h3 := h2 i x (Nat.le_refl _) hx
          by_cases hje : j = i
          · subst hje; rw [hx] at hjx; cases hjx; exact hk he
          · have := hv.rise j i x _ (by omega) hx hjx; omega
      simp [hk, hn]; omega

/-- A pager with a page of its transaction set. -/
def setP (p : DPager) (k : Int) (d : Str) : DPager := (p.1, p.2.1, p.2.2.1, p.2.2.2.1, p.2.2.2.2.1, setL p.2.2.2.2.2 k d)
def SetV (p : DPager) (k : Int) (d : Str) : Prop := FitsV p.2.1 (setL p.2.2.2.2.2 k d).length

abbrev POutB := List Str × (List (Int × Str)) × Int × Bool × Int × Int × Int × Int × Int × Int × (List (Int × Str)) × (List (Int × Str)) × Bool
def outPgB (p : DPager) (c : Bool) : POutB := (p.1.1, p.1.2.1, p.1.2.2.1, p.1.2.2.2, p.2.1.1, p.2.1.2.1, p.2.1.2.2.1, p.2.1.2.2.2, p.2.2.1, p.2.2.2.1, p.2.2.2.2.1, p.2.2.2.2.2, c)

open Classical in
theorem l12Set_out (p : DPager) (k : Int) (d : Str) (hin : PagerIn p 1048576) :
    spec_l12Set_oc8 p.1.1 p.1.2.1 p.1.2.2.1 p.1.2.2.2 p.2.1.1 p.2.1.2.1 p.2.1.2.2.1 p.2.1.2.2.2 p.2.2.1 p.2.2.2.1 p.2.2.2.2.1 p.2.2.2.2.2 k d = some (if SetV p k d then outPgB (setP p k d) true else outPgB p false) := by
  unfold spec_l12Set_oc8
  rw [lit_eq, l11Merge_out _ _ hin.2.2.2 (by simp), Option.bind_some, mrg_one]
  have := l12Fits_out p.2.1 (setL p.2.2.2.2.2 k d).length
  rw [show (p.2.1.1, p.2.1.2.1, p.2.1.2.2.1, p.2.1.2.2.2) = p.2.1 from rfl, this, Option.bind_some]
  simp only [deq]
  by_cases h : SetV p k d
  · rw [if_pos h, if_neg (by unfold SetV at h; simpa using h)]; rfl
  · rw [if_neg h, if_pos (by unfold SetV at h; simpa using h)]; rfl

open Classical in
theorem set_out (p : DPager) (k : Int) (d : Str) (hp : PagerV p) (hin : PagerIn p 1048576) :
    impl_Pager_set_oc8 p.1.1 p.1.2.1 p.1.2.2.1 p.1.2.2.2 p.2.1.1 p.2.1.2.1 p.2.1.2.2.1 p.2.1.2.2.2 p.2.2.1 p.2.2.2.1 p.2.2.2.2.1 p.2.2.2.2.2 k d = some (if SetV p k d then outPg (setP p k d) 0 else outPg p 5) := by
  unfold impl_Pager_set_oc8
  have hv := hp.2.2.2.2.2.2.2.1
  have hfit : FitsV p.2.1 p.2.2.2.2.2.length := hp.2.2.2.2.2.2.2.2.2.2
  obtain ⟨i, hi, h1, h2, h3, h4⟩ := pageAt_out p.2.2.2.2.2 k hv hin.2.2.2
  have hlen := setL_length (d := d) hv hi h1 h2
  have hat := setL_at k d _ i hi h1 h2
  rw [h3, Option.bind_some]
  simp only
  cases hf : pgF p.2.2.2.2.2 k with
  | some x =>
    have hx := h4 x hf
    have hxk : x.1 = k := by have := List.find?_some hf; simpa using this
    have hil := (List.getElem?_eq_some_iff.1 hx).1
    rw [hf] at hlen
    rw [hx] at hat
    simp only [if_pos hxk] at hat
    have hs : SetV p k d := by unfold SetV; rw [hlen]; exact hfit
    rw [if_pos hs, if_pos (by rfl), if_pos (by omega), Int.toNat_natCast, hx, Option.bind_some]
    unfold outPg setP
    rw [hat, hxk]
  | none =>
    rw [hf] at hlen
    have hat' : setL p.2.2.2.2.2 k d = p.2.2.2.2.2.take i ++ (k, d) :: p.2.2.2.2.2.drop i := by
      rw [hat]
      cases hx : p.2.2.2.2.2[i]? with
      | none => rfl
      | some x =>
        simp only
        rw [if_neg]
        intro hk
        have := find_at hx hk fun j y hj hy => by have := h1 j y hj hy; omega
        rw [hf] at this; cases this
    have hlb := hin.2.2.2
    rw [if_neg (by simp), w1 (by omega)]
    have hfo := fits_out p.2.1 (p.2.2.2.2.2.length + 1) hp.2.2.1
    rw [show (p.2.1.1, p.2.1.2.1, p.2.1.2.2.1, p.2.1.2.2.2) = p.2.1 from rfl, show ((p.2.2.2.2.2.length : Nat) : Int) + 1 = ((p.2.2.2.2.2.length + 1 : Nat) : Int) by omega, hfo, Option.bind_some]
    simp only [deq]
    have hsv : SetV p k d ↔ FitsV p.2.1 (p.2.2.2.2.2.length + 1) := by unfold SetV; rw [hlen]; simp
    by_cases h : FitsV p.2.1 (p.2.2.2.2.2.length + 1)
    · rw [if_pos (hsv.2 h), if_neg (by simpa using h)]
      unfold slices_Insert_impl_Page_impl_Page_
      rw [lit_eq, insV_one]
      unfold insL
      rw [if_pos ⟨by omega, by omega, by simp only [maxRow]; omega⟩, Option.bind_some, Int.toNat_natCast]
      unfold outPg setP
      rw [hat']
    · rw [if_neg (fun hh => h (hsv.1 hh)), if_pos (by simpa using h)]; rfl

theorem setP_in (p : DPager) (k : Int) (d : Str) (hp : PagerV p) (hin : PagerIn p 1048576) : PagerIn (setP p k d) 1048576 := by
  refine ⟨hin.1, hin.2.1, hin.2.2.1, ?_⟩
  have := setL_len k d p.2.2.2.2.2
  have h2 := hp.2.2.2.2.2.2.2.1.1
  show (setL p.2.2.2.2.2 k d).length ≤ 1048576
  omega

theorem setP_valid (p : DPager) (k : Int) (d : Str) (hp : PagerV p) (h0 : 2 + p.2.1.2.1 ≤ k) (h1 : k ≤ p.2.1.1 - 1) (hd : d.length = 64) (hs : SetV p k d) : PagerV (setP p k d) := by
  obtain ⟨a1, a2, a3, a4, a5, a6, a7, a8, a9, a10, a11⟩ := hp
  refine ⟨a1, a2, a3, a4, a5, a6, a7, ?_, a9, ?_, hs⟩
  · have hsn := hs.1
    have h3 : 0 ≤ p.2.1.2.1 ∧ p.2.1.1 ≤ 256 := by
      unfold SuperV at a3; omega
    exact setL_pagesV a8 (by omega) (by omega) hd (by omega)
  · intro x hx
    rcases mem_setL k d _ x hx with rfl | hx
    · exact ⟨h0, h1⟩
    · exact a10 x hx

end Go.Proofs.TM
