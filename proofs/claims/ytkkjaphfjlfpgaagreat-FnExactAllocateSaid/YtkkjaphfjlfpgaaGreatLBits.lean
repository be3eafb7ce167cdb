/- The bits of an allocation page. -/
import Derived.Test.YtkkjaphfjlfpgaaGreatLAreaP
namespace Go.Proofs.TM
open Go Go.Proofs
set_option linter.unusedVariables false
set_option linter.unusedSimpArgs false
set_option maxHeartbeats 1000000

/-- A bit of an allocation page. -/
def bitP (area : Str) (k : Int) : Bool := decide (bitV .and .u8 (shrV .u8 (((area.getD (4 + Int.tdiv k 8).toNat 0).toNat : Nat) : Int) (Int.tmod k 8)) 1 = 1)
theorem tdm {k : Int} (h0 : 0 ≤ k) (h1 : k ≤ 300) : 0 ≤ Int.tdiv k 8 ∧ Int.tdiv k 8 = k / 8 ∧ 0 ≤ Int.tmod k 8 ∧ Int.tmod k 8 < 8 := by
  rw [Int.tdiv_eq_ediv_of_nonneg h0, Int.tmod_eq_emod_of_nonneg h0]; omega
theorem l13Bit_out (area : Str) (k : Int) (ha : area.length = 64) (h0 : 0 ≤ k) (h1 : k ≤ 300) : spec_l13Bit area k = some (bitP area k) := by
  obtain ⟨a, b, c, d⟩ := tdm h0 h1
  unfold spec_l13Bit bitP
  rw [wrap_in (n := Int.tdiv k 8) (by omega) (by omega), wrap_in (n := 4 + Int.tdiv k 8) (by omega) (by omega), if_pos (by omega)]
  obtain ⟨x, hx⟩ := get_at (l := area) (i := (4 + Int.tdiv k 8).toNat) (by omega)
  have hu : IntKind.u64.wrap (Int.tmod k 8) = Int.tmod k 8 := by simp [IntKind.wrap, IntKind.bits, IntKind.signed]; omega
  rw [hx, Option.bind_some, hu, if_neg (by omega), List.getD_eq_getElem?_getD, hx]
  rfl

theorem allocated_out (p : DPager) (hp : PagerV p) (hin : PagerIn p 1048576) (k : Int) (h0 : areaK p < k) (h1 : k < (p.1.1.length : Int)) : impl_Pager_allocated p k = some (bitP (areaP p) k) := by
  have ha := area_in hp
  have hl := areaP_len hp
  unfold impl_Pager_allocated bitP
  rw [isData_out p hp k 1 (by omega) (by omega), Option.bind_some, if_pos (by simp; omega), iArea_out p hp, Option.bind_some, get_out p _ hp hin (by omega) (by omega), Option.bind_some]
  obtain ⟨a, b, c, d⟩ := tdm (k := k) (by omega) (by omega)
  rw [wrap_in (n := Int.tdiv k 8) (by omega) (by omega), wrap_in (n := 4 + Int.tdiv k 8) (by omega) (by omega), if_pos (by omega)]
  obtain ⟨x, hx⟩ := get_at (l := areaP p) (i := (4 + Int.tdiv k 8).toNat) (by omega)
  rw [show getP p (areaK p) = areaP p from rfl, hx, Option.bind_some, if_neg (by omega), List.getD_eq_getElem?_getD, hx]
  rfl

end Go.Proofs.TM
