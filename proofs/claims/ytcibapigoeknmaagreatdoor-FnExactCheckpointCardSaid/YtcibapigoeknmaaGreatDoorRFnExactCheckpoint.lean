/- FnExactCheckpoint holds: for every argument that reads as data of the parameters' types, the call returns true, and the arguments read behind it as before. The call turns no memory that was there. -/
import Derived.Test.YtcibapigoeknmaaGreatDoorTie
import Derived.Test.YtcibapigoeknmaaGreatDoorCards
import Derived.Test.YtcibapigoeknmaaGreatDoorTGlue
import Derived.Test.YtcibapigoeknmaaGreatDoorJD
import Derived.WalkKit
import Derived.ProofKit
import Derived.OpenShut
import Derived.JoinedCond
import Derived.LaidMore
import Derived.Lay
import Derived.SevenTiedAt
import Derived.Stop.Joined
namespace Go.Proofs.YtcibapigoeknmaaGreatDoor.fnExactCheckpoint
open Go.ChangeShapes Go.WideShapes Go.ChangeAt Go.RowKit Go.Proofs.TM
set_option linter.unusedVariables false
set_option linter.unusedSimpArgs false

theorem own : ownKnob Tryz.prog.godebug = none := by kernel_rfl
theorem laidOut : laidOutB Tryz.prog = true := by kernel_rfl

theorem reads9 : Reads Tryz.prog 9 Str := reads_str Tryz.underlying9
theorem reads22 : Reads Tryz.prog 22 (List Str) := reads_slice Tryz.underlying22 reads9 (by kernel_rfl) (by decide)
theorem reads2 : Reads Tryz.prog 2 Int := reads_int Tryz.underlying2
theorem reads95 : Reads Tryz.prog 95 (Int × Str) := reads_struct Tryz.underlying95 (by kernel_rfl) (fread_cons rfl (by kernel_rfl) reads2 (fread_one rfl (by kernel_rfl) reads9))
theorem reads23 : Reads Tryz.prog 23 (List (Int × Str)) := reads_slice Tryz.underlying23 reads95 (by kernel_rfl) (by decide)
theorem reads4 : Reads Tryz.prog 4 Bool := reads_bool Tryz.underlying4
theorem reads25 : Reads Tryz.prog 25 ((List Str) × (List (Int × Str)) × Int × Bool) := reads_struct Tryz.underlying25 (by kernel_rfl) (fread_cons rfl (by kernel_rfl) reads22 (fread_cons rfl (by kernel_rfl) reads23 (fread_cons rfl (by kernel_rfl) reads2 (fread_one rfl (by kernel_rfl) reads4))))
theorem reads27 : Reads Tryz.prog 27 (Int × Int × Int × Int) := reads_struct Tryz.underlying27 (by kernel_rfl) (fread_cons rfl (by kernel_rfl) reads2 (fread_cons rfl (by kernel_rfl) reads2 (fread_cons rfl (by kernel_rfl) reads2 (fread_one rfl (by kernel_rfl) reads2))))
theorem reads67 : Reads Tryz.prog 67 (Int × Str) := reads_struct Tryz.underlying67 (by kernel_rfl) (fread_cons rfl (by kernel_rfl) reads2 (fread_one rfl (by kernel_rfl) reads9))
theorem reads28 : Reads Tryz.prog 28 (List (Int × Str)) := reads_slice Tryz.underlying28 reads67 (by kernel_rfl) (by decide)
theorem reads30 : Reads Tryz.prog 30 (((List Str) × (List (Int × Str)) × Int × Bool) × (Int × Int × Int × Int) × Int × Int × (List (Int × Str)) × (List (Int × Str))) := reads_struct Tryz.underlying30 (by kernel_rfl) (fread_cons rfl (by kernel_rfl) reads25 (fread_cons rfl (by kernel_rfl) reads27 (fread_cons rfl (by kernel_rfl) reads2 (fread_cons rfl (by kernel_rfl) reads2 (fread_cons rfl (by kernel_rfl) reads28 (fread_one rfl (by kernel_rfl) reads28))))))

theorem laws_FnExactCheckpoint_app_a (a0 : (((List Str) × (List (Int × Str)) × Int × Bool) × (Int × Int × Int × Int) × Int × Int × (List (Int × Str)) × (List (Int × Str)))) : laws_FnExactCheckpoint_r [.agg (Cel.enc a0)] = (laws_FnExactCheckpoint a0).map (fun r => ((.bool r), [])) := by
  exact laws_FnExactCheckpoint_app a0.1.1 a0.1.2.1 a0.1.2.2.1 a0.1.2.2.2 a0.2.1.1 a0.2.1.2.1 a0.2.1.2.2.1 a0.2.1.2.2.2 a0.2.2.1 a0.2.2.2.1 a0.2.2.2.2.1 a0.2.2.2.2.2

set_option maxRecDepth 100000 in
theorem contract (H : Type) (enc : TypeId × Value → H) (W : World) (base : Nat) (args : Array Value) (ds gs : List (DataW H)) (before : List MemPlace)
    (hval : ∀ (j : Nat) t v, Tryz.f3.params[j]? = some t → args[j]? = some v → Value.okWide Tryz.prog W .any base t v)
    (hW : DataW.Whole enc Tryz.prog Tryz.f3.params.toList Rows.fnExactCheckpointSpec.vars false W args.toList ds gs before) :
    Calls Tryz.prog 3 args W fun e W' => ∃ v, e = .returned v ∧ Rows.fnExactCheckpointSpec.post enc Tryz.prog Tryz.f3 false true false false W args v W' := by
  have hW' := hW
  obtain ⟨p, q, hA0, hV, rfl, hfz, hnd⟩ := hW
  have hA : DataW.TrodAll enc Tryz.prog W 0 (fun _ => true) true Tryz.f3.params.toList args.toList ds p := hA0
  rw [Tryz.params3] at hA hval
  obtain ⟨v0, vs0, d0, ds0, p0, q0, hargs, rfl, rfl, h0, r0⟩ := trodAll_cons hA
  obtain ⟨rfl, rfl, rfl⟩ := trodAll_nil r0
  obtain rfl : args = #[v0] := by cases args; simp_all
  obtain ⟨rfl, rfl⟩ := trodVars_none hV
  obtain ⟨a0, s0, o0⟩ := shown_struct reads30 Tryz.underlying30 (hval 0 30 v0 rfl rfl) h0
  clear hA0
  simp only [List.append_nil] at hW'
  have hlt := hW'.lt
  have hrule : laws_FnExactCheckpoint_r [.agg (Cel.enc a0)] = some (.bool true, []) := (laws_FnExactCheckpoint_app_a a0).trans (by rw [FnExactCheckpoint_true a0 o0]; rfl)
  refine (laws_FnExactCheckpoint_ok.2 _ _ _ hrule W (Old W) #[v0] (fun _ _ h => h) (VRL.cons s0 VRL.nil)).mono fun e W' ⟨v, I', μ', he, hx, _, _, _, hvr, _⟩ => ?_
  subst he
  cases hvr
  have hb := hx.below
  exact ⟨_, rfl, _, _, _, [], _, [], hW', (trodAll_cons_mk (shut_bool Tryz.underlying4 _) trodAll_mk0), (trodAll_cons_mk (Below.trod laidOut (by kernel_rfl) (of_decide_eq_true (by kernel_rfl)) h0 hb (fun x hx => hlt x (by simp [hx]))) trodAll_mk0), rfl, hb.frame _, fun h => by cases h⟩

set_option maxRecDepth 100000 in
theorem lifted (os : Os) (started : os.Started) (H : Type) (enc : TypeId × Value → H) :
    ReturnsInHanded {} Tryz.checked os 3 .any (fun w args => (Rows.fnExactCheckpointSpec.pre enc Tryz.prog Tryz.f3 Rows.fnExactCheckpointRow.domain false w args ∧ laidMetH Tryz.prog Rows.fnExactCheckpointRow.laid w) ∧ sizedMet enc Tryz.prog Tryz.f3 (OpenSpec.ofChange Rows.fnExactCheckpointSpec) false w args)
      (Rows.fnExactCheckpointSpec.post enc Tryz.prog Tryz.f3 false true false false) := by
  refine returnsInHanded_of_change_and (C := Tryz.checked) (X := fun w _ => laidMetH Tryz.prog Rows.fnExactCheckpointRow.laid w) (fun _ _ _ hh h => h.of_heap hh) own started (by kernel_rfl) Tryz.func3
    (ChangeSpec.witness_shaped (enc := enc) (C := Tryz.checked) (os := os) (X := fun w _ => laidMetH Tryz.prog Rows.fnExactCheckpointRow.laid w) false (World.laidAll Tryz.prog os Rows.fnExactCheckpointRow.laid) #[.agg #[.slice none 0 0, .slice none 0 0, .int .i64 0, .bool false, .int .i64 0, .int .i64 0, .int .i64 0, .int .i64 0, .int .i64 0, .int .i64 0, .slice none 0 0, .slice none 0 0]] 8 (World.laidAll_os _ _ _)
      (World.shaped_of_ZipB (by kernel_rfl) (by kernel_rfl)) (by kernel_rfl) (by kernel_rfl) (by kernel_rfl)
      (by rw [MakeChecks.laidMetH_plain _ _ _ (by kernel_rfl)]; exact laidMet_laidAll _ (by kernel_rfl) (by kernel_rfl))) ?_
  intro W base args ds gs before hval hW _ _ _ _
  exact contract H enc W base args ds gs before hval hW

theorem said : Rows.FnExactCheckpointSaid :=
  OpenClaim.holds_of_wide 3 Tryz.f3 rfl rfl rfl rfl rfl rfl rfl ⟨rfl, rfl, rfl, rfl, rfl⟩ rfl rfl rfl rfl rfl (by kernel_rfl) Tryz.func3 (by kernel_rfl)
    (of_decide_eq_true (by kernel_rfl)) (by unfold Func.isWrapper; first | (rw [if_pos (by decide +kernel)]; kernel_rfl) | (rw [if_neg (by decide +kernel)]; exact ⟨rfl, rfl⟩))
    (fun os started H enc _ => lifted os started H enc)

theorem proved : Rows.FnExactCheckpointCardSaid :=
  Claim7.holds_tied_plain_at .later [] [.data, .pinned] true (true, "9abcaa8e344c8e24d70b14aca0b4357c0321c56701f6bfb8276a970138599bba") false said (fun _ h => by cases h) (by kernel_rfl) (fun _ h => by cases h) fnExactCheckpoint_row_tie rfl ⟨rfl, rfl⟩ (by kernel_rfl) rfl
    (fun f fn hf hfn => by
      obtain rfl : f = 3 := Option.some.inj ((show Tryz.prog.funcNamed "loop.example/g00904/laws.FnExactCheckpoint" = some 3 by kernel_rfl).symm.trans hf) |>.symm
      obtain rfl : fn = Tryz.f3 := (Option.some.inj (Tryz.func3.symm.trans hfn)).symm
      exact ⟨by kernel_rfl, fun j t ht => by
        rw [Tryz.params3] at ht
        have hm : t ∈ [30] := by simpa using Array.mem_of_getElem? ht
        have hall : ([30].all fun u => !Tryz.prog.wantsStandIn u) = true := by kernel_rfl
        exact (show Tryz.prog.wantsStandIn t = false by simpa using List.all_eq_true.1 hall t hm)⟩)
    (by kernel_rfl)
end Go.Proofs.YtcibapigoeknmaaGreatDoor.fnExactCheckpoint
