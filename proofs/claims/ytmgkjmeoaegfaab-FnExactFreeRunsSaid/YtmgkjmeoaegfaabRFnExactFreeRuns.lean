/- FnExactFreeRuns holds: for every argument that reads as data of the parameters' types, the call returns true, and the arguments read behind it as before. The call turns no memory that was there. -/
import Derived.Test.YtmgkjmeoaegfaabRows
import Derived.Test.YtmgkjmeoaegfaabTGlue
import Derived.Test.YtmgkjmeoaegfaabLFreeRuns
import Derived.WalkKit
import Derived.ProofKit
import Derived.OpenShut
import Derived.JoinedCond
namespace Go.Proofs.Ytmgkjmeoaegfaab.fnExactFreeRuns
open Go.ChangeShapes Go.WideShapes Go.ChangeAt Go.RowKit Go.Proofs.TM
set_option linter.unusedVariables false
set_option linter.unusedSimpArgs false

theorem own : ownKnob Try.prog.godebug = none := by kernel_rfl
theorem laidOut : laidOutB Try.prog = true := by kernel_rfl

theorem reads9 : Reads Try.prog 9 Str := reads_str Try.underlying9
theorem reads24 : Reads Try.prog 24 (List Str) := reads_slice Try.underlying24 reads9 (by kernel_rfl) (by decide)
theorem reads2 : Reads Try.prog 2 Int := reads_int Try.underlying2
theorem reads166 : Reads Try.prog 166 (Int × Str) := reads_struct Try.underlying166 (by kernel_rfl) (fread_cons rfl (by kernel_rfl) reads2 (fread_one rfl (by kernel_rfl) reads9))
theorem reads42 : Reads Try.prog 42 (List (Int × Str)) := reads_slice Try.underlying42 reads166 (by kernel_rfl) (by decide)
theorem reads4 : Reads Try.prog 4 Bool := reads_bool Try.underlying4
theorem reads44 : Reads Try.prog 44 ((List Str) × (List (Int × Str)) × Int × Bool) := reads_struct Try.underlying44 (by kernel_rfl) (fread_cons rfl (by kernel_rfl) reads24 (fread_cons rfl (by kernel_rfl) reads42 (fread_cons rfl (by kernel_rfl) reads2 (fread_one rfl (by kernel_rfl) reads4))))
theorem reads45 : Reads Try.prog 45 (Int × Int × Int × Int) := reads_struct Try.underlying45 (by kernel_rfl) (fread_cons rfl (by kernel_rfl) reads2 (fread_cons rfl (by kernel_rfl) reads2 (fread_cons rfl (by kernel_rfl) reads2 (fread_one rfl (by kernel_rfl) reads2))))
theorem reads137 : Reads Try.prog 137 (Int × Str) := reads_struct Try.underlying137 (by kernel_rfl) (fread_cons rfl (by kernel_rfl) reads2 (fread_one rfl (by kernel_rfl) reads9))
theorem reads46 : Reads Try.prog 46 (List (Int × Str)) := reads_slice Try.underlying46 reads137 (by kernel_rfl) (by decide)
theorem reads48 : Reads Try.prog 48 (((List Str) × (List (Int × Str)) × Int × Bool) × (Int × Int × Int × Int) × Int × Int × (List (Int × Str)) × (List (Int × Str))) := reads_struct Try.underlying48 (by kernel_rfl) (fread_cons rfl (by kernel_rfl) reads44 (fread_cons rfl (by kernel_rfl) reads45 (fread_cons rfl (by kernel_rfl) reads2 (fread_cons rfl (by kernel_rfl) reads2 (fread_cons rfl (by kernel_rfl) reads46 (fread_one rfl (by kernel_rfl) reads46))))))

theorem laws_FnExactFreeRuns_app_a (a0 : (((List Str) × (List (Int × Str)) × Int × Bool) × (Int × Int × Int × Int) × Int × Int × (List (Int × Str)) × (List (Int × Str)))) : laws_FnExactFreeRuns_r [.agg (Cel.enc a0)] = (laws_FnExactFreeRuns a0).map (fun r => ((.bool r), [])) := by
  exact laws_FnExactFreeRuns_app a0.1.1 a0.1.2.1 a0.1.2.2.1 a0.1.2.2.2 a0.2.1.1 a0.2.1.2.1 a0.2.1.2.2.1 a0.2.1.2.2.2 a0.2.2.1 a0.2.2.2.1 a0.2.2.2.2.1 a0.2.2.2.2.2

set_option maxRecDepth 100000 in
theorem contract (H : Type) (enc : TypeId × Value → H) (W : World) (base : Nat) (args : Array Value) (ds gs : List (DataW H)) (before : List MemPlace)
    (hval : ∀ (j : Nat) t v, Try.f5.params[j]? = some t → args[j]? = some v → Value.okWide Try.prog W .any base t v)
    (hW : DataW.Whole enc Try.prog Try.f5.params.toList Rows.fnExactFreeRunsSpec.vars false W args.toList ds gs before) :
    Calls Try.prog 5 args W fun e W' => ∃ v, e = .returned v ∧ Rows.fnExactFreeRunsSpec.post enc Try.prog Try.f5 false true false false W args v W' := by
  have hW' := hW
  obtain ⟨p, q, hA0, hV, rfl, hfz, hnd⟩ := hW
  have hA : DataW.TrodAll enc Try.prog W 0 (fun _ => true) true Try.f5.params.toList args.toList ds p := hA0
  rw [Try.params5] at hA hval
  obtain ⟨v0, vs0, d0, ds0, p0, q0, hargs, rfl, rfl, h0, r0⟩ := trodAll_cons hA
  obtain ⟨rfl, rfl, rfl⟩ := trodAll_nil r0
  obtain rfl : args = #[v0] := by cases args; simp_all
  obtain ⟨rfl, rfl⟩ := trodVars_none hV
  obtain ⟨a0, s0, o0⟩ := shown_struct reads48 Try.underlying48 (hval 0 48 v0 rfl rfl) h0
  clear hA0
  simp only [List.append_nil] at hW'
  have hlt := hW'.lt
  have hrule : laws_FnExactFreeRuns_r [.agg (Cel.enc a0)] = some (.bool true, []) := (laws_FnExactFreeRuns_app_a a0).trans (by rw [FnExactFreeRuns_true a0 o0]; rfl)
  refine (laws_FnExactFreeRuns_ok.2 _ _ _ hrule W (Old W) #[v0] (fun _ _ h => h) (VRL.cons s0 VRL.nil)).mono fun e W' ⟨v, I', μ', he, hx, _, _, _, hvr, _⟩ => ?_
  subst he
  cases hvr
  have hb := hx.below
  exact ⟨_, rfl, _, _, _, [], _, [], hW', (trodAll_cons_mk (shut_bool Try.underlying4 _) trodAll_mk0), (trodAll_cons_mk (Below.trod laidOut (by kernel_rfl) (of_decide_eq_true (by kernel_rfl)) h0 hb (fun x hx => hlt x (by simp [hx]))) trodAll_mk0), rfl, hb.frame _, fun h => by cases h⟩

set_option maxRecDepth 100000 in
theorem lifted (os : Os) (started : os.Started) (H : Type) (enc : TypeId × Value → H) :
    ReturnsInHanded {} Try.checked os 5 .any (Rows.fnExactFreeRunsSpec.pre6 enc Try.prog Try.f5 Rows.fnExactFreeRunsRow.domain false) (Rows.fnExactFreeRunsSpec.post enc Try.prog Try.f5 false true false false) := by
  refine returnsInHanded_of_change (C := Try.checked) own started (by kernel_rfl) Try.func5
    (ChangeSpec.witness6 (enc := enc) (C := Try.checked) false ⟨#[], #[.agg #[.slice none 0 0, .slice none 0 0, .int .i64 0, .bool false, .int .i64 0, .int .i64 0, .int .i64 0, .int .i64 0, .int .i64 0, .int .i64 0, .slice none 0 0, .slice none 0 0]], []⟩ 8 (by kernel_rfl) (by kernel_rfl) (by kernel_rfl) (by kernel_rfl)) ?_
  intro W base args ds gs before hval hW _ _
  exact contract H enc W base args ds gs before hval hW

theorem proved : Rows.FnExactFreeRunsSaid :=
  OpenClaim.holds_of_wide 5 Try.f5 rfl rfl rfl rfl rfl rfl rfl ⟨rfl, rfl, rfl, rfl, rfl⟩ rfl rfl rfl rfl rfl (by kernel_rfl) Try.func5 (by kernel_rfl)
    (of_decide_eq_true (by kernel_rfl)) (by unfold Func.isWrapper; first | (rw [if_pos (by decide +kernel)]; kernel_rfl) | (rw [if_neg (by decide +kernel)]; exact ⟨rfl, rfl⟩))
    (fun os started H enc _ => lifted os started H enc)
end Go.Proofs.Ytmgkjmeoaegfaab.fnExactFreeRuns
