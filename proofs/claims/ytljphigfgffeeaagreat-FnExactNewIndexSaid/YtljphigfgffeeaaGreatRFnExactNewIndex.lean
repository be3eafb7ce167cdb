/- FnExactNewIndex holds: for every argument that reads as data of the parameters' types, the call returns true, and the arguments read behind it as before. The call turns no memory that was there. -/
import Derived.Test.YtljphigfgffeeaaGreatRows
import Derived.Test.YtljphigfgffeeaaGreatTGlue
import Derived.Test.YtljphigfgffeeaaGreatNC
import Derived.WalkKit
import Derived.ProofKit
import Derived.OpenShut
import Derived.JoinedCond
namespace Go.Proofs.YtljphigfgffeeaaGreat.fnExactNewIndex
open Go.ChangeShapes Go.WideShapes Go.ChangeAt Go.RowKit Go.Proofs.TM
set_option linter.unusedVariables false
set_option linter.unusedSimpArgs false

theorem own : ownKnob Tryz.prog.godebug = none := by kernel_rfl
theorem laidOut : laidOutB Tryz.prog = true := by kernel_rfl

theorem reads9 : Reads Tryz.prog 9 Str := reads_str Tryz.underlying9
theorem reads22 : Reads Tryz.prog 22 (List Str) := reads_slice Tryz.underlying22 reads9 (by kernel_rfl) (by decide)
theorem reads2 : Reads Tryz.prog 2 Int := reads_int Tryz.underlying2
theorem reads134 : Reads Tryz.prog 134 (Int × Str) := reads_struct Tryz.underlying134 (by kernel_rfl) (fread_cons rfl (by kernel_rfl) reads2 (fread_one rfl (by kernel_rfl) reads9))
theorem reads23 : Reads Tryz.prog 23 (List (Int × Str)) := reads_slice Tryz.underlying23 reads134 (by kernel_rfl) (by decide)
theorem reads4 : Reads Tryz.prog 4 Bool := reads_bool Tryz.underlying4
theorem reads25 : Reads Tryz.prog 25 ((List Str) × (List (Int × Str)) × Int × Bool) := reads_struct Tryz.underlying25 (by kernel_rfl) (fread_cons rfl (by kernel_rfl) reads22 (fread_cons rfl (by kernel_rfl) reads23 (fread_cons rfl (by kernel_rfl) reads2 (fread_one rfl (by kernel_rfl) reads4))))
theorem reads27 : Reads Tryz.prog 27 (Int × Int × Int × Int) := reads_struct Tryz.underlying27 (by kernel_rfl) (fread_cons rfl (by kernel_rfl) reads2 (fread_cons rfl (by kernel_rfl) reads2 (fread_cons rfl (by kernel_rfl) reads2 (fread_one rfl (by kernel_rfl) reads2))))
theorem reads86 : Reads Tryz.prog 86 (Int × Str) := reads_struct Tryz.underlying86 (by kernel_rfl) (fread_cons rfl (by kernel_rfl) reads2 (fread_one rfl (by kernel_rfl) reads9))
theorem reads28 : Reads Tryz.prog 28 (List (Int × Str)) := reads_slice Tryz.underlying28 reads86 (by kernel_rfl) (by decide)
theorem reads30 : Reads Tryz.prog 30 (((List Str) × (List (Int × Str)) × Int × Bool) × (Int × Int × Int × Int) × Int × Int × (List (Int × Str)) × (List (Int × Str))) := reads_struct Tryz.underlying30 (by kernel_rfl) (fread_cons rfl (by kernel_rfl) reads25 (fread_cons rfl (by kernel_rfl) reads27 (fread_cons rfl (by kernel_rfl) reads2 (fread_cons rfl (by kernel_rfl) reads2 (fread_cons rfl (by kernel_rfl) reads28 (fread_one rfl (by kernel_rfl) reads28))))))

theorem laws_FnExactNewIndex_app_a (a0 : (((List Str) × (List (Int × Str)) × Int × Bool) × (Int × Int × Int × Int) × Int × Int × (List (Int × Str)) × (List (Int × Str)))) : laws_FnExactNewIndex_r [.agg (Cel.enc a0)] = (laws_FnExactNewIndex a0).map (fun r => ((.bool r), [])) := by
  exact laws_FnExactNewIndex_app a0.1.1 a0.1.2.1 a0.1.2.2.1 a0.1.2.2.2 a0.2.1.1 a0.2.1.2.1 a0.2.1.2.2.1 a0.2.1.2.2.2 a0.2.2.1 a0.2.2.2.1 a0.2.2.2.2.1 a0.2.2.2.2.2

set_option maxRecDepth 100000 in
theorem contract (H : Type) (enc : TypeId × Value → H) (W : World) (base : Nat) (args : Array Value) (ds gs : List (DataW H)) (before : List MemPlace)
    (hval : ∀ (j : Nat) t v, Tryz.f4.params[j]? = some t → args[j]? = some v → Value.okWide Tryz.prog W .any base t v)
    (hW : DataW.Whole enc Tryz.prog Tryz.f4.params.toList Rows.fnExactNewIndexSpec.vars false W args.toList ds gs before) :
    Calls Tryz.prog 4 args W fun e W' => ∃ v, e = .returned v ∧ Rows.fnExactNewIndexSpec.post enc Tryz.prog Tryz.f4 false true false false W args v W' := by
  have hW' := hW
  obtain ⟨p, q, hA0, hV, rfl, hfz, hnd⟩ := hW
  have hA : DataW.TrodAll enc Tryz.prog W 0 (fun _ => true) true Tryz.f4.params.toList args.toList ds p := hA0
  rw [Tryz.params4] at hA hval
  obtain ⟨v0, vs0, d0, ds0, p0, q0, hargs, rfl, rfl, h0, r0⟩ := trodAll_cons hA
  obtain ⟨rfl, rfl, rfl⟩ := trodAll_nil r0
  obtain rfl : args = #[v0] := by cases args; simp_all
  obtain ⟨rfl, rfl⟩ := trodVars_none hV
  obtain ⟨a0, s0, o0⟩ := shown_struct reads30 Tryz.underlying30 (hval 0 30 v0 rfl rfl) h0
  clear hA0
  simp only [List.append_nil] at hW'
  have hlt := hW'.lt
  have hrule : laws_FnExactNewIndex_r [.agg (Cel.enc a0)] = some (.bool true, []) := (laws_FnExactNewIndex_app_a a0).trans (by rw [FnExactNewIndex_true a0 o0]; rfl)
  refine (laws_FnExactNewIndex_ok.2 _ _ _ hrule W (Old W) #[v0] (fun _ _ h => h) (VRL.cons s0 VRL.nil)).mono fun e W' ⟨v, I', μ', he, hx, _, _, _, hvr, _⟩ => ?_
  subst he
  cases hvr
  have hb := hx.below
  exact ⟨_, rfl, _, _, _, [], _, [], hW', (trodAll_cons_mk (shut_bool Tryz.underlying4 _) trodAll_mk0), (trodAll_cons_mk (Below.trod laidOut (by kernel_rfl) (of_decide_eq_true (by kernel_rfl)) h0 hb (fun x hx => hlt x (by simp [hx]))) trodAll_mk0), rfl, hb.frame _, fun h => by cases h⟩

set_option maxRecDepth 100000 in
theorem lifted (os : Os) (started : os.Started) (H : Type) (enc : TypeId × Value → H) :
    ReturnsInHanded {} Tryz.checked os 4 .any (Rows.fnExactNewIndexSpec.pre6 enc Tryz.prog Tryz.f4 Rows.fnExactNewIndexRow.domain false) (Rows.fnExactNewIndexSpec.post enc Tryz.prog Tryz.f4 false true false false) := by
  refine returnsInHanded_of_change (C := Tryz.checked) own started (by kernel_rfl) Tryz.func4
    (ChangeSpec.witness6 (enc := enc) (C := Tryz.checked) false ⟨#[], #[.agg #[.slice none 0 0, .slice none 0 0, .int .i64 0, .bool false, .int .i64 0, .int .i64 0, .int .i64 0, .int .i64 0, .int .i64 0, .int .i64 0, .slice none 0 0, .slice none 0 0]], []⟩ 8 (by kernel_rfl) (by kernel_rfl) (by kernel_rfl) (by kernel_rfl)) ?_
  intro W base args ds gs before hval hW _ _
  exact contract H enc W base args ds gs before hval hW

theorem proved : Rows.FnExactNewIndexSaid :=
  OpenClaim.holds_of_wide 4 Tryz.f4 rfl rfl rfl rfl rfl rfl rfl ⟨rfl, rfl, rfl, rfl, rfl⟩ rfl rfl rfl rfl rfl (by kernel_rfl) Tryz.func4 (by kernel_rfl)
    (of_decide_eq_true (by kernel_rfl)) (by unfold Func.isWrapper; first | (rw [if_pos (by decide +kernel)]; kernel_rfl) | (rw [if_neg (by decide +kernel)]; exact ⟨rfl, rfl⟩))
    (fun os started H enc _ => lifted os started H enc)
end Go.Proofs.YtljphigfgffeeaaGreat.fnExactNewIndex
