/- Bits of the allocation page marked. -/
import Derived.Test.YtkkjaphfjlfpgaaGreatLBits
import Derived.Test.YtkkjaphfjlfpgaaGreatLSet
namespace Go.Proofs.TM
open Go Go.Proofs
set_option linter.unusedVariables false
set_option linter.unusedSimpArgs false
set_option maxHeartbeats 1000000

/-- One bit marked, or not. -/
def mkStep (set : Bool) (l : List Bt) (k : Int) : List Bt :=
  l.set (4 + Int.tdiv k 8).toNat ⟨UInt8.ofNat ((if set = true then bitV .or .u8 (((l.getD (4 + Int.tdiv k 8).toNat ⟨0⟩).v.toNat : Nat) : Int) (shlV .u8 1 (Int.tmod k 8)) else bitV .andNot .u8 (((l.getD (4 + Int.tdiv k 8).toNat ⟨0⟩).v.toNat : Nat) : Int) (shlV .u8 1 (Int.tmod k 8)))).toNat⟩
def markL (s : Str) (k : Int) (set : Bool) : Nat → List Bt
  | 0 => s.map Bt.mk
  | i + 1 => mkStep set (markL s k set i) (k + i)
theorem markL_len (s : Str) (k : Int) (set : Bool) : ∀ i, (markL s k set i).length = s.length
  | 0 => by simp [markL]
  | i + 1 => by simp [markL, mkStep, markL_len s k set i]
def markP (s : Str) (k n : Int) (set : Bool) : Str := (markL s k set n.toNat).map Bt.v
theorem markP_len (s : Str) (k n : Int) (set : Bool) : (markP s k n set).length = s.length := by simp [markP, markL_len]

theorem mark_loop {ρ : Type} (s : Str) (k n : Int) (set : Bool) (h0 : 0 ≤ k) (hn : 0 ≤ n) (h : k + n ≤ 256) (R : List Bt → ρ) (f : List Bt × Int → Option ((List Bt × Int) ⊕ ρ))
    (h1 : ∀ (m : List Bt) (i : Nat), m.length = s.length → (i : Int) < n → f (m, k + i) = some (.inl (mkStep set m (k + i), k + i + 1))) (h2 : ∀ m, f (m, k + n) = some (.inr (R m))) :
    loopO f (s.map Bt.mk, k) = some (R (markL s k set n.toNat)) := by
  refine loop_some n.toNat (fun i st => st = (markL s k set i, k + i) ∧ (i : Int) ≤ n) (fun i st hi hs => ?_) n.toNat 0 _ (by omega) ⟨by simp [markL], by omega⟩
  obtain ⟨rfl, hin⟩ := hs
  by_cases hlt : (i : Int) < n
  · refine .inr ⟨by omega, _, h1 _ i (markL_len s k set i) hlt, ?_, by omega⟩
    simp [markL]; omega
  · have he : (i : Int) = n := by omega
    have : i = n.toNat := by omega
    subst this
    rw [he]
    exact .inl (h2 _)

theorem l13Mark_out (s : Str) (k n : Int) (set : Bool) (hs : s.length = 64) (h0 : 0 ≤ k) (hn : 0 ≤ n) (h : k + n ≤ 256) : spec_l13Mark s k n set = some (markP s k n set) := by
  unfold spec_l13Mark bytL spec_l13Mark_l1
  rw [if_pos (by rw [hs]; unfold maxRow; omega), Option.bind_some]
  have hw : IntKind.i64.wrap (k + n) = k + n := wrap_in (by omega) (by omega)
  rw [mark_loop s k n set h0 hn h (fun m => m) _ (fun m i hm hi => ?_) (fun m => ?_)]
  · rfl
  · simp only [spec_l13Mark_l1_b]
    obtain ⟨a, b, c, d⟩ := tdm (k := k + i) (by omega) (by omega)
    have hu : IntKind.u64.wrap (Int.tmod (k + i) 8) = Int.tmod (k + i) 8 := by simp [IntKind.wrap, IntKind.bits, IntKind.signed]; omega
    rw [hw, if_pos (by omega), hu, if_neg (by omega), wrap_in (n := Int.tdiv (k + i) 8) (by omega) (by omega), wrap_in (n := 4 + Int.tdiv (k + i) 8) (by omega) (by omega), wrap_in (n := k + i + 1) (by omega) (by omega)]
    obtain ⟨x, hx⟩ := get_at (l := m) (i := (4 + Int.tdiv (k + i) 8).toNat) (by omega)
    have hd : m.getD (4 + Int.tdiv (k + i) 8).toNat ⟨0⟩ = x := by rw [List.getD_eq_getElem?_getD, hx]; rfl
    unfold mkStep
    rw [hd]
    cases set
    · rw [if_neg (by simp), if_pos (by omega), hx, Option.bind_some, if_pos (by omega), Option.bind_some, if_neg (by simp)]
    · rw [if_pos rfl, if_pos (by omega), hx, Option.bind_some, if_pos (by omega), Option.bind_some, if_pos rfl]
  · simp only [spec_l13Mark_l1_b]
    rw [hw, if_neg (by omega)]

open Classical in
theorem mark_out (p : DPager) (k n : Int) (set : Bool) (hp : PagerV p) (hin : PagerIn p 1048576) (h0 : 0 ≤ k) (hn : 0 ≤ n) (h : k + n ≤ 256) :
    impl_Pager_mark_o8d p.1.1 p.1.2.1 p.1.2.2.1 p.1.2.2.2 p.2.1.1 p.2.1.2.1 p.2.1.2.2.1 p.2.1.2.2.2 p.2.2.1 p.2.2.2.1 p.2.2.2.2.1 p.2.2.2.2.2 k n set =
      some (if SetV p (areaK p) (markP (areaP p) k n set) then outPg (setP p (areaK p) (markP (areaP p) k n set)) 0 else outPg p 5) := by
  have ha := area_in hp
  have hs := areaP_len hp
  unfold impl_Pager_mark_o8d
  simp only [pg_eta]
  rw [iArea_out p hp, Option.bind_some, get_out p _ hp hin (by omega) (by omega), Option.bind_some, show getP p (areaK p) = areaP p from rfl]
  unfold bytL impl_Pager_mark_o8d_l1
  rw [if_pos (by rw [hs]; unfold maxRow; omega), Option.bind_some]
  have hw : IntKind.i64.wrap (k + n) = k + n := wrap_in (by omega) (by omega)
  rw [mark_loop (areaP p) k n set h0 hn h (fun m => (p.1.1, p.1.2.1, p.1.2.2.1, p.1.2.2.2, p.2.1.1, p.2.1.2.1, p.2.1.2.2.1, p.2.1.2.2.2, p.2.2.1, p.2.2.2.1, p.2.2.2.2.1, p.2.2.2.2.2, m)) _ (fun m i hm hi => ?_) (fun m => ?_)]
  · simp only [Option.bind_some, pg_eta]
    rw [iArea_out p hp, Option.bind_some, show (markL (areaP p) k set n.toNat).map Bt.v = markP (areaP p) k n set from rfl, set_out p _ _ hp hin, Option.bind_some]
  · simp only [impl_Pager_mark_o8d_l1_b]
    obtain ⟨a, b, c, d⟩ := tdm (k := k + i) (by omega) (by omega)
    rw [hw, if_pos (by omega), if_neg (by omega), wrap_in (n := Int.tdiv (k + i) 8) (by omega) (by omega), wrap_in (n := 4 + Int.tdiv (k + i) 8) (by omega) (by omega), wrap_in (n := k + i + 1) (by omega) (by omega)]
    obtain ⟨x, hx⟩ := get_at (l := m) (i := (4 + Int.tdiv (k + i) 8).toNat) (by omega)
    have hd : m.getD (4 + Int.tdiv (k + i) 8).toNat ⟨0⟩ = x := by rw [List.getD_eq_getElem?_getD, hx]; rfl
    unfold mkStep
    rw [hd]
    cases set
    · rw [if_neg (by simp), if_pos (by omega), hx, Option.bind_some, if_pos (by omega), Option.bind_some, if_neg (by simp)]
    · rw [if_pos rfl, if_pos (by omega), hx, Option.bind_some, if_pos (by omega), Option.bind_some, if_pos rfl]
  · simp only [impl_Pager_mark_o8d_l1_b]
    rw [hw, if_neg (by omega)]
end Go.Proofs.TM
