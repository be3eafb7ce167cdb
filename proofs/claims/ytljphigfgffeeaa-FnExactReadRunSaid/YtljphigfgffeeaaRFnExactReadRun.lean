/- FnExactReadRun holds: for every argument that reads as data of the parameters' types, the call returns true, and the arguments read behind it as before. The call turns no memory that was there. -/
import Derived.Test.YtljphigfgffeeaaRows
import Derived.Test.YtljphigfgffeeaaTGlue
import Derived.Test.YtljphigfgffeeaaLReadRun
import Derived.WalkKit
import Derived.ProofKit
import Derived.OpenShut
import Derived.JoinedCond
namespace Go.Proofs.Ytljphigfgffeeaa.fnExactReadRun
open Go.ChangeShapes Go.WideShapes Go.ChangeAt Go.RowKit Go.Proofs.TM
set_option linter.unusedVariables false
set_option linter.unusedSimpArgs false

theorem own : ownKnob Try.prog.godebug = none := by kernel_rfl
theorem laidOut : laidOutB Try.prog = true := by kernel_rfl

theorem reads9 : Reads Try.prog 9 Str := reads_str Try.underlying9
theorem reads22 : Reads Try.prog 22 (List Str) := reads_slice Try.underlying22 reads9 (by kernel_rfl) (by decide)
theorem reads2 : Reads Try.prog 2 Int := reads_int Try.underlying2
theorem reads95 : Reads Try.prog 95 (Int × Str) := reads_struct Try.underlying95 (by kernel_rfl) (fread_cons rfl (by kernel_rfl) reads2 (fread_one rfl (by kernel_rfl) reads9))
theorem reads23 : Reads Try.prog 23 (List (Int × Str)) := reads_slice Try.underlying23 reads95 (by kernel_rfl) (by decide)
theorem reads4 : Reads Try.prog 4 Bool := reads_bool Try.underlying4
theorem reads25 : Reads Try.prog 25 ((List Str) × (List (Int × Str)) × Int × Bool) := reads_struct Try.underlying25 (by kernel_rfl) (fread_cons rfl (by kernel_rfl) reads22 (fread_cons rfl (by kernel_rfl) reads23 (fread_cons rfl (by kernel_rfl) reads2 (fread_one rfl (by kernel_rfl) reads4))))
theorem reads27 : Reads Try.prog 27 (Int × Int × Int × Int) := reads_struct Try.underlying27 (by kernel_rfl) (fread_cons rfl (by kernel_rfl) reads2 (fread_cons rfl (by kernel_rfl) reads2 (fread_cons rfl (by kernel_rfl) reads2 (fread_one rfl (by kernel_rfl) reads2))))
theorem reads64 : Reads Try.prog 64 (Int × Str) := reads_struct Try.underlying64 (by kernel_rfl) (fread_cons rfl (by kernel_rfl) reads2 (fread_one rfl (by kernel_rfl) reads9))
theorem reads28 : Reads Try.prog 28 (List (Int × Str)) := reads_slice Try.underlying28 reads64 (by kernel_rfl) (by decide)
theorem reads30 : Reads Try.prog 30 (((List Str) × (List (Int × Str)) × Int × Bool) × (Int × Int × Int × Int) × Int × Int × (List (Int × Str)) × (List (Int × Str))) := reads_struct Try.underlying30 (by kernel_rfl) (fread_cons rfl (by kernel_rfl) reads25 (fread_cons rfl (by kernel_rfl) reads27 (fread_cons rfl (by kernel_rfl) reads2 (fread_cons rfl (by kernel_rfl) reads2 (fread_cons rfl (by kernel_rfl) reads28 (fread_one rfl (by kernel_rfl) reads28))))))

theorem laws_FnExactReadRun_app_a (a0 : (((List Str) × (List (Int × Str)) × Int × Bool) × (Int × Int × Int × Int) × Int × Int × (List (Int × Str)) × (List (Int × Str)))) (a1 : Int) (a2 : Int) : laws_FnExactReadRun_r [.agg (Cel.enc a0), .int .i64 a1, .int .i64 a2] = (laws_FnExactReadRun a0 a1 a2).map (fun r => ((.bool r), [])) := by
  exact laws_FnExactReadRun_app a0.1.1 a0.1.2.1 a0.1.2.2.1 a0.1.2.2.2 a0.2.1.1 a0.2.1.2.1 a0.2.1.2.2.1 a0.2.1.2.2.2 a0.2.2.1 a0.2.2.2.1 a0.2.2.2.2.1 a0.2.2.2.2.2 a1 a2

set_option maxRecDepth 100000 in
theorem contract (H : Type) (enc : TypeId × Value → H) (W : World) (base : Nat) (args : Array Value) (ds gs : List (DataW H)) (before : List MemPlace)
    (hval : ∀ (j : Nat) t v, Try.f3.params[j]? = some t → args[j]? = some v → Value.okWide Try.prog W .any base t v)
    (hW : DataW.Whole enc Try.prog Try.f3.params.toList Rows.fnExactReadRunSpec.vars false W args.toList ds gs before) :
    Calls Try.prog 3 args W fun e W' => ∃ v, e = .returned v ∧ Rows.fnExactReadRunSpec.post enc Try.prog Try.f3 false true false false W args v W' := by
  have hW' := hW
  obtain ⟨p, q, hA0, hV, rfl, hfz, hnd⟩ := hW
  have hA : DataW.TrodAll enc Try.prog W 0 (fun _ => true) true Try.f3.params.toList args.toList ds p := hA0
  rw [Try.params3] at hA hval
  obtain ⟨v0, vs0, d0, ds0, p0, q0, hargs, rfl, rfl, h0, r0⟩ := trodAll_cons hA
  obtain ⟨v1, vs1, d1, ds1, p1, q1, rfl, rfl, rfl, h1, r1⟩ := trodAll_cons r0
  obtain ⟨v2, vs2, d2, ds2, p2, q2, rfl, rfl, rfl, h2, r2⟩ := trodAll_cons r1
  obtain ⟨rfl, rfl, rfl⟩ := trodAll_nil r2
  obtain rfl : args = #[v0, v1, v2] := by cases args; simp_all
  obtain ⟨rfl, rfl⟩ := trodVars_none hV
  obtain ⟨a0, s0, o0⟩ := shown_struct reads30 Try.underlying30 (hval 0 30 v0 rfl rfl) h0
  obtain ⟨a1, s1, o1⟩ := shown_int reads2 Try.underlying2 (hval 1 2 v1 rfl rfl) h1
  obtain ⟨a2, s2, o2⟩ := shown_int reads2 Try.underlying2 (hval 2 2 v2 rfl rfl) h2
  clear hA0
  simp only [List.append_nil] at hW'
  have hlt := hW'.lt
  have hrule : laws_FnExactReadRun_r [.agg (Cel.enc a0), .int .i64 a1, .int .i64 a2] = some (.bool true, []) := (laws_FnExactReadRun_app_a a0 a1 a2).trans (by rw [FnExactReadRun_true a0 a1 a2 o0 o1 o2]; rfl)
  refine (laws_FnExactReadRun_ok.2 _ _ _ hrule W (Old W) #[v0, v1, v2] (fun _ _ h => h) (VRL.cons s0 (VRL.cons s1 (VRL.cons s2 VRL.nil)))).mono fun e W' ⟨v, I', μ', he, hx, _, _, _, hvr, _⟩ => ?_
  subst he
  cases hvr
  have hb := hx.below
  exact ⟨_, rfl, _, _, _, [], _, [], hW', (trodAll_cons_mk (shut_bool Try.underlying4 _) trodAll_mk0), (trodAll_cons_mk (Below.trod laidOut (by kernel_rfl) (of_decide_eq_true (by kernel_rfl)) h0 hb (fun x hx => hlt x (by simp [hx]))) (trodAll_cons_mk (Below.trod laidOut (by kernel_rfl) (of_decide_eq_true (by kernel_rfl)) h1 hb (fun x hx => hlt x (by simp [hx]))) (trodAll_cons_mk (Below.trod laidOut (by kernel_rfl) (of_decide_eq_true (by kernel_rfl)) h2 hb (fun x hx => hlt x (by simp [hx]))) trodAll_mk0))), rfl, hb.frame _, fun h => by cases h⟩

set_option maxRecDepth 100000 in
theorem lifted (os : Os) (started : os.Started) (H : Type) (enc : TypeId × Value → H) :
    ReturnsInHanded {} Try.checked os 3 .any (Rows.fnExactReadRunSpec.pre6 enc Try.prog Try.f3 Rows.fnExactReadRunRow.domain false) (Rows.fnExactReadRunSpec.post enc Try.prog Try.f3 false true false false) := by
  refine returnsInHanded_of_change (C := Try.checked) own started (by kernel_rfl) Try.func3
    (ChangeSpec.witness6 (enc := enc) (C := Try.checked) false ⟨#[], #[.agg #[.slice none 0 0, .slice none 0 0, .int .i64 0, .bool false, .int .i64 0, .int .i64 0, .int .i64 0, .int .i64 0, .int .i64 0, .int .i64 0, .slice none 0 0, .slice none 0 0], .int .i64 0, .int .i64 0], []⟩ 8 (by kernel_rfl) (by kernel_rfl) (by kernel_rfl) (by kernel_rfl)) ?_
  intro W base args ds gs before hval hW _ _
  exact contract H enc W base args ds gs before hval hW

theorem proved : Rows.FnExactReadRunSaid :=
  OpenClaim.holds_of_wide 3 Try.f3 rfl rfl rfl rfl rfl rfl rfl ⟨rfl, rfl, rfl, rfl, rfl⟩ rfl rfl rfl rfl rfl (by kernel_rfl) Try.func3 (by kernel_rfl)
    (of_decide_eq_true (by kernel_rfl)) (by unfold Func.isWrapper; first | (rw [if_pos (by decide +kernel)]; kernel_rfl) | (rw [if_neg (by decide +kernel)]; exact ⟨rfl, rfl⟩))
    (fun os started H enc _ => lifted os started H enc)
end Go.Proofs.Ytljphigfgffeeaa.fnExactReadRun
