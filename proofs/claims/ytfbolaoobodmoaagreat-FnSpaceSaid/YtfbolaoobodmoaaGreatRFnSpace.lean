/- FnSpace holds: for every argument that reads as data of the parameters' types, the call returns true, and the arguments read behind it as before. The call turns no memory that was there. -/
import Derived.Test.YtfbolaoobodmoaaGreatRows
import Derived.Test.YtfbolaoobodmoaaGreatTGlue
import Derived.Test.YtfbolaoobodmoaaGreatSD
import Derived.WalkKit
import Derived.ProofKit
import Derived.OpenShut
import Derived.JoinedCond
namespace Go.Proofs.YtfbolaoobodmoaaGreat.fnSpace
open Go.ChangeShapes Go.WideShapes Go.ChangeAt Go.RowKit Go.Proofs.TM
set_option linter.unusedVariables false
set_option linter.unusedSimpArgs false

theorem own : ownKnob Tryz.prog.godebug = none := by kernel_rfl
theorem laidOut : laidOutB Tryz.prog = true := by kernel_rfl

theorem reads5 : Reads Tryz.prog 5 Bt := reads_byte Tryz.underlying5
theorem reads22 : Reads Tryz.prog 22 (List Bt) := reads_slice Tryz.underlying22 reads5 (by kernel_rfl) (by decide)

theorem laws_FnSpace_app_a (a0 : (List Bt)) : laws_FnSpace_r [.vs (rows a0)] = (laws_FnSpace a0).map (fun r => ((.bool r), [])) := by
  exact laws_FnSpace_app a0

set_option maxRecDepth 100000 in
theorem contract (H : Type) (enc : TypeId × Value → H) (W : World) (base : Nat) (args : Array Value) (ds gs : List (DataW H)) (before : List MemPlace)
    (hval : ∀ (j : Nat) t v, Tryz.f4.params[j]? = some t → args[j]? = some v → Value.okWide Tryz.prog W .any base t v)
    (hW : DataW.Whole enc Tryz.prog Tryz.f4.params.toList Rows.fnSpaceSpec.vars false W args.toList ds gs before) :
    Calls Tryz.prog 4 args W fun e W' => ∃ v, e = .returned v ∧ Rows.fnSpaceSpec.post enc Tryz.prog Tryz.f4 false true false false W args v W' := by
  have hW' := hW
  obtain ⟨p, q, hA0, hV, rfl, hfz, hnd⟩ := hW
  have hA : DataW.TrodAll enc Tryz.prog W 0 (fun _ => true) true Tryz.f4.params.toList args.toList ds p := hA0
  rw [Tryz.params4] at hA hval
  obtain ⟨v0, vs0, d0, ds0, p0, q0, hargs, rfl, rfl, h0, r0⟩ := trodAll_cons hA
  obtain ⟨rfl, rfl, rfl⟩ := trodAll_nil r0
  obtain rfl : args = #[v0] := by cases args; simp_all
  obtain ⟨rfl, rfl⟩ := trodVars_none hV
  obtain ⟨a0, s0, o0⟩ := shown_slice reads22 Tryz.underlying22 (hval 0 22 v0 rfl rfl) h0
  clear hA0
  simp only [List.append_nil] at hW'
  have hlt := hW'.lt
  have hrule : laws_FnSpace_r [.vs (rows a0)] = some (.bool true, []) := (laws_FnSpace_app_a a0).trans (by rw [FnSpace_true a0 o0]; rfl)
  refine (laws_FnSpace_ok.2 _ _ _ hrule W (Old W) #[v0] (fun _ _ h => h) (VRL.cons s0 VRL.nil)).mono fun e W' ⟨v, I', μ', he, hx, _, _, _, hvr, _⟩ => ?_
  subst he
  cases hvr
  have hb := hx.below
  exact ⟨_, rfl, _, _, _, [], _, [], hW', (trodAll_cons_mk (shut_bool Tryz.underlying4 _) trodAll_mk0), (trodAll_cons_mk (Below.trod laidOut (by kernel_rfl) (of_decide_eq_true (by kernel_rfl)) h0 hb (fun x hx => hlt x (by simp [hx]))) trodAll_mk0), rfl, hb.frame _, fun h => by cases h⟩

set_option maxRecDepth 100000 in
theorem lifted (os : Os) (started : os.Started) (H : Type) (enc : TypeId × Value → H) :
    ReturnsInHanded {} Tryz.checked os 4 .any (Rows.fnSpaceSpec.pre6 enc Tryz.prog Tryz.f4 Rows.fnSpaceRow.domain false) (Rows.fnSpaceSpec.post enc Tryz.prog Tryz.f4 false true false false) := by
  refine returnsInHanded_of_change (C := Tryz.checked) own started (by kernel_rfl) Tryz.func4
    (ChangeSpec.witness6 (enc := enc) (C := Tryz.checked) false ⟨#[], #[.slice none 0 0], []⟩ 8 (by kernel_rfl) (by kernel_rfl) (by kernel_rfl) (by kernel_rfl)) ?_
  intro W base args ds gs before hval hW _ _
  exact contract H enc W base args ds gs before hval hW

theorem proved : Rows.FnSpaceSaid :=
  OpenClaim.holds_of_wide 4 Tryz.f4 rfl rfl rfl rfl rfl rfl rfl ⟨rfl, rfl, rfl, rfl, rfl⟩ rfl rfl rfl rfl rfl (by kernel_rfl) Tryz.func4 (by kernel_rfl)
    (of_decide_eq_true (by kernel_rfl)) (by unfold Func.isWrapper; first | (rw [if_pos (by decide +kernel)]; kernel_rfl) | (rw [if_neg (by decide +kernel)]; exact ⟨rfl, rfl⟩))
    (fun os started H enc _ => lifted os started H enc)
end Go.Proofs.YtfbolaoobodmoaaGreat.fnSpace
