/- Pagers in the laws: copies, marks and what is found of them. -/
import Derived.Test.YtkkjaphfjlfpgaaGreatLPager
import Derived.Test.YtkkjaphfjlfpgaaGreatLMark
namespace Go.Proofs.TM
open Go Go.Proofs
set_option linter.unusedVariables false
set_option linter.unusedSimpArgs false
set_option maxHeartbeats 1000000

theorem pg_eta (p : DPager) : ((p.1.1, p.1.2.1, p.1.2.2.1, p.1.2.2.2), (p.2.1.1, p.2.1.2.1, p.2.1.2.2.1, p.2.1.2.2.2), p.2.2.1, p.2.2.2.1, p.2.2.2.2.1, p.2.2.2.2.2) = p := rfl

theorem markPager_out (a : DPager) (h : PagerIn a 1048576) : ∃ r, laws_markPager_o71 a.1.1 a.1.2.1 a.1.2.2.1 a.1.2.2.2 a.2.1.1 a.2.1.2.1 a.2.1.2.2.1 a.2.1.2.2.2 a.2.2.1 a.2.2.2.1 a.2.2.2.2.1 a.2.2.2.2.2 1 = some r ∧ r.1.length = a.1.1.length ∧ r.2.1.length = a.1.2.1.length ∧ r.2.2.1.length = a.2.2.2.2.1.length ∧ r.2.2.2.1.length = a.2.2.2.2.2.length ∧ ¬r.2.2.2.2 < 0 ∧
    laws_heldPager ((fixLen a.1.1 r.1, fixLen a.1.2.1 r.2.1, a.1.2.2.1, a.1.2.2.2), (a.2.1.1, a.2.1.2.1, a.2.1.2.2.1, a.2.1.2.2.2), a.2.2.1, a.2.2.2.1, fixLen a.2.2.2.2.1 r.2.2.1, fixLen a.2.2.2.2.2 r.2.2.2.1) 1 = some r.2.2.2.2 := by
  obtain ⟨h1, h2, h3, h4⟩ := h
  have hpg : ∀ (l : List (Int × Str)) (h : l.length ≤ 1048576) (K : Int) (h0 : 0 ≤ K) (hK : K ≤ 1073741824), ∃ m, laws_markPageS_o2a l K = some (m, K + 2 * l.length) ∧ m.length = l.length ∧ Marked ePut 2 K m := fun l h K h0 hK => markPutS_out l h K h0 hK
  have hhl : ∀ (l : List (Int × Str)) (h : l.length ≤ 1048576) (K : Int) (h0 : 0 ≤ K) (hK : K ≤ 1073741824) (hm : Marked ePut 2 K l), laws_heldPageS l K = some (K + 2 * l.length) := fun l h K h0 hK hm => heldPutS_out l h K h0 hK hm
  obtain ⟨m1, e1, l1, q1⟩ := markStringS_out a.1.1 h1 1 (by omega) (by omega)
  obtain ⟨m2, e2, l2, q2⟩ := markPutS_out a.1.2.1 h2 (1 + a.1.1.length) (by omega) (by omega)
  obtain ⟨m3, e3, l3, q3⟩ := hpg a.2.2.2.2.1 h3 (1 + a.1.1.length + 2 * a.1.2.1.length) (by omega) (by omega)
  obtain ⟨m4, e4, l4, q4⟩ := hpg a.2.2.2.2.2 h4 (1 + a.1.1.length + 2 * a.1.2.1.length + 2 * a.2.2.2.2.1.length) (by omega) (by omega)
  refine ⟨(m1, m2, m3, m4, 1 + a.1.1.length + 2 * a.1.2.1.length + 2 * a.2.2.2.2.1.length + 2 * a.2.2.2.2.2.length), ?_, l1, l2, l3, l4, by simp only; omega, ?_⟩
  · simp only [laws_markPager_o71, laws_markDisk_o3e, e1, e2, l1, l2, fixLen_eq, Option.bind_some, if_true, and_self, e3, l3, e4, l4]
  · have g1 := heldStringS_out m1 (by omega) 1 (by omega) (by omega) q1
    have g2 := heldPutS_out m2 (by omega) (1 + a.1.1.length) (by omega) (by omega) q2
    have g3 := hhl m3 (by omega) (1 + a.1.1.length + 2 * a.1.2.1.length) (by omega) (by omega) q3
    have g4 := hhl m4 (by omega) (1 + a.1.1.length + 2 * a.1.2.1.length + 2 * a.2.2.2.2.1.length) (by omega) (by omega) q4
    rw [l1] at g1; rw [l2] at g2; rw [l3] at g3; rw [l4] at g4
    simp only [laws_heldPager, laws_heldDisk, fixLen_eq l1, fixLen_eq l2, fixLen_eq l3, fixLen_eq l4, g1, g2, Option.bind_some]
    rw [if_neg (by omega), if_neg (by omega), Option.bind_some, if_neg (by omega), g3, Option.bind_some, if_neg (by omega), g4, Option.bind_some, if_neg (by omega)]

/-- What an operation on a pager answers: the pager's parts, and a code. -/
abbrev POut := List Str × (List (Int × Str)) × Int × Bool × Int × Int × Int × Int × Int × Int × (List (Int × Str)) × (List (Int × Str)) × Int
def POut.pg (o : POut) : DPager := ((o.1, o.2.1, o.2.2.1, o.2.2.2.1), (o.2.2.2.2.1, o.2.2.2.2.2.1, o.2.2.2.2.2.2.1, o.2.2.2.2.2.2.2.1), o.2.2.2.2.2.2.2.2.1, o.2.2.2.2.2.2.2.2.2.1, o.2.2.2.2.2.2.2.2.2.2.1, o.2.2.2.2.2.2.2.2.2.2.2.1)
def outPg (p : DPager) (c : Int) : POut := (p.1.1, p.1.2.1, p.1.2.2.1, p.1.2.2.2, p.2.1.1, p.2.1.2.1, p.2.1.2.2.1, p.2.1.2.2.2, p.2.2.1, p.2.2.2.1, p.2.2.2.2.1, p.2.2.2.2.2, c)
def noPg : DPager := (([], [], 0, false), (0, 0, 0, 0), 0, 0, [], [])
theorem noPg_in : PagerIn noPg 1048576 := ⟨by simp [noPg], by simp [noPg], by simp [noPg], by simp [noPg]⟩
end Go.Proofs.TM
