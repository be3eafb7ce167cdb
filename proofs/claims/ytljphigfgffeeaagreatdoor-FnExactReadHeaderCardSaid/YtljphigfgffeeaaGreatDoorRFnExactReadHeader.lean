/- FnExactReadHeader holds: for every argument that reads as data of the parameters' types, the call returns true, and the arguments read behind it as before. The call turns no memory that was there. -/
import Derived.Test.YtljphigfgffeeaaGreatDoorTie
import Derived.Test.YtljphigfgffeeaaGreatDoorCards
import Derived.Test.YtljphigfgffeeaaGreatDoorTGlue
import Derived.Test.YtljphigfgffeeaaGreatDoorWD
import Derived.WalkKit
import Derived.ProofKit
import Derived.OpenShut
import Derived.JoinedCond
import Derived.LaidMore
import Derived.Lay
import Derived.SevenTiedAt
import Derived.Stop.Joined
namespace Go.Proofs.YtljphigfgffeeaaGreatDoor.fnExactReadHeader
open Go.ChangeShapes Go.WideShapes Go.ChangeAt Go.RowKit Go.Proofs.TM
set_option linter.unusedVariables false
set_option linter.unusedSimpArgs false

theorem own : ownKnob Tryz.prog.godebug = none := by kernel_rfl
theorem laidOut : laidOutB Tryz.prog = true := by kernel_rfl

theorem reads9 : Reads Tryz.prog 9 Str := reads_str Tryz.underlying9
theorem reads22 : Reads Tryz.prog 22 (List Str) := reads_slice Tryz.underlying22 reads9 (by kernel_rfl) (by decide)
theorem reads2 : Reads Tryz.prog 2 Int := reads_int Tryz.underlying2
theorem reads134 : Reads Tryz.prog 134 (Int × Str) := reads_struct Tryz.underlying134 (by kernel_rfl) (fread_cons rfl (by kernel_rfl) reads2 (fread_one rfl (by kernel_rfl) reads9))
theorem reads23 : Reads Tryz.prog 23 (List (Int × Str)) := reads_slice Tryz.underlying23 reads134 (by kernel_rfl) (by decide)
theorem reads4 : Reads Tryz.prog 4 Bool := reads_bool Tryz.underlying4
theorem reads25 : Reads Tryz.prog 25 ((List Str) × (List (Int × Str)) × Int × Bool) := reads_struct Tryz.underlying25 (by kernel_rfl) (fread_cons rfl (by kernel_rfl) reads22 (fread_cons rfl (by kernel_rfl) reads23 (fread_cons rfl (by kernel_rfl) reads2 (fread_one rfl (by kernel_rfl) reads4))))
theorem reads27 : Reads Tryz.prog 27 (Int × Int × Int × Int) := reads_struct Tryz.underlying27 (by kernel_rfl) (fread_cons rfl (by kernel_rfl) reads2 (fread_cons rfl (by kernel_rfl) reads2 (fread_cons rfl (by kernel_rfl) reads2 (fread_one rfl (by kernel_rfl) reads2))))
theorem reads86 : Reads Tryz.prog 86 (Int × Str) := reads_struct Tryz.underlying86 (by kernel_rfl) (fread_cons rfl (by kernel_rfl) reads2 (fread_one rfl (by kernel_rfl) reads9))
theorem reads28 : Reads Tryz.prog 28 (List (Int × Str)) := reads_slice Tryz.underlying28 reads86 (by kernel_rfl) (by decide)
theorem reads30 : Reads Tryz.prog 30 (((List Str) × (List (Int × Str)) × Int × Bool) × (Int × Int × Int × Int) × Int × Int × (List (Int × Str)) × (List (Int × Str))) := reads_struct Tryz.underlying30 (by kernel_rfl) (fread_cons rfl (by kernel_rfl) reads25 (fread_cons rfl (by kernel_rfl) reads27 (fread_cons rfl (by kernel_rfl) reads2 (fread_cons rfl (by kernel_rfl) reads2 (fread_cons rfl (by kernel_rfl) reads28 (fread_one rfl (by kernel_rfl) reads28))))))

theorem laws_FnExactReadHeader_app_a (a0 : (((List Str) × (List (Int × Str)) × Int × Bool) × (Int × Int × Int × Int) × Int × Int × (List (Int × Str)) × (List (Int × Str)))) (a1 : Int) : laws_FnExactReadHeader_r [.agg (Cel.enc a0), .int .i64 a1] = (laws_FnExactReadHeader a0 a1).map (fun r => ((.bool r), [])) := by
  exact laws_FnExactReadHeader_app a0.1.1 a0.1.2.1 a0.1.2.2.1 a0.1.2.2.2 a0.2.1.1 a0.2.1.2.1 a0.2.1.2.2.1 a0.2.1.2.2.2 a0.2.2.1 a0.2.2.2.1 a0.2.2.2.2.1 a0.2.2.2.2.2 a1

set_option maxRecDepth 100000 in
theorem contract (H : Type) (enc : TypeId × Value → H) (W : World) (base : Nat) (args : Array Value) (ds gs : List (DataW H)) (before : List MemPlace)
    (hval : ∀ (j : Nat) t v, Tryz.f4.params[j]? = some t → args[j]? = some v → Value.okWide Tryz.prog W .any base t v)
    (hW : DataW.Whole enc Tryz.prog Tryz.f4.params.toList Rows.fnExactReadHeaderSpec.vars false W args.toList ds gs before) :
    Calls Tryz.prog 4 args W fun e W' => ∃ v, e = .returned v ∧ Rows.fnExactReadHeaderSpec.post enc Tryz.prog Tryz.f4 false true false false W args v W' := by
  have hW' := hW
  obtain ⟨p, q, hA0, hV, rfl, hfz, hnd⟩ := hW
  have hA : DataW.TrodAll enc Tryz.prog W 0 (fun _ => true) true Tryz.f4.params.toList args.toList ds p := hA0
  rw [Tryz.params4] at hA hval
  obtain ⟨v0, vs0, d0, ds0, p0, q0, hargs, rfl, rfl, h0, r0⟩ := trodAll_cons hA
  obtain ⟨v1, vs1, d1, ds1, p1, q1, rfl, rfl, rfl, h1, r1⟩ := trodAll_cons r0
  obtain ⟨rfl, rfl, rfl⟩ := trodAll_nil r1
  obtain rfl : args = #[v0, v1] := by cases args; simp_all
  obtain ⟨rfl, rfl⟩ := trodVars_none hV
  obtain ⟨a0, s0, o0⟩ := shown_struct reads30 Tryz.underlying30 (hval 0 30 v0 rfl rfl) h0
  obtain ⟨a1, s1, o1⟩ := shown_int reads2 Tryz.underlying2 (hval 1 2 v1 rfl rfl) h1
  clear hA0
  simp only [List.append_nil] at hW'
  have hlt := hW'.lt
  have hrule : laws_FnExactReadHeader_r [.agg (Cel.enc a0), .int .i64 a1] = some (.bool true, []) := (laws_FnExactReadHeader_app_a a0 a1).trans (by rw [FnExactReadHeader_true a0 a1 o0 o1]; rfl)
  refine (laws_FnExactReadHeader_ok.2 _ _ _ hrule W (Old W) #[v0, v1] (fun _ _ h => h) (VRL.cons s0 (VRL.cons s1 VRL.nil))).mono fun e W' ⟨v, I', μ', he, hx, _, _, _, hvr, _⟩ => ?_
  subst he
  cases hvr
  have hb := hx.below
  exact ⟨_, rfl, _, _, _, [], _, [], hW', (trodAll_cons_mk (shut_bool Tryz.underlying4 _) trodAll_mk0), (trodAll_cons_mk (Below.trod laidOut (by kernel_rfl) (of_decide_eq_true (by kernel_rfl)) h0 hb (fun x hx => hlt x (by simp [hx]))) (trodAll_cons_mk (Below.trod laidOut (by kernel_rfl) (of_decide_eq_true (by kernel_rfl)) h1 hb (fun x hx => hlt x (by simp [hx]))) trodAll_mk0)), rfl, hb.frame _, fun h => by cases h⟩

set_option maxRecDepth 100000 in
theorem lifted (os : Os) (started : os.Started) (H : Type) (enc : TypeId × Value → H) :
    ReturnsInHanded {} Tryz.checked os 4 .any (fun w args => (Rows.fnExactReadHeaderSpec.pre enc Tryz.prog Tryz.f4 Rows.fnExactReadHeaderRow.domain false w args ∧ laidMetH Tryz.prog Rows.fnExactReadHeaderRow.laid w) ∧ sizedMet enc Tryz.prog Tryz.f4 (OpenSpec.ofChange Rows.fnExactReadHeaderSpec) false w args)
      (Rows.fnExactReadHeaderSpec.post enc Tryz.prog Tryz.f4 false true false false) := by
  refine returnsInHanded_of_change_and (C := Tryz.checked) (X := fun w _ => laidMetH Tryz.prog Rows.fnExactReadHeaderRow.laid w) (fun _ _ _ hh h => h.of_heap hh) own started (by kernel_rfl) Tryz.func4
    (ChangeSpec.witness_shaped (enc := enc) (C := Tryz.checked) (os := os) (X := fun w _ => laidMetH Tryz.prog Rows.fnExactReadHeaderRow.laid w) false (World.laidAll Tryz.prog os Rows.fnExactReadHeaderRow.laid) #[.agg #[.slice none 0 0, .slice none 0 0, .int .i64 0, .bool false, .int .i64 0, .int .i64 0, .int .i64 0, .int .i64 0, .int .i64 0, .int .i64 0, .slice none 0 0, .slice none 0 0], .int .i64 0] 8 (World.laidAll_os _ _ _)
      (World.shaped_of_ZipB (by kernel_rfl) (by kernel_rfl)) (by kernel_rfl) (by kernel_rfl) (by kernel_rfl)
      (by rw [MakeChecks.laidMetH_plain _ _ _ (by kernel_rfl)]; exact laidMet_laidAll _ (by kernel_rfl) (by kernel_rfl))) ?_
  intro W base args ds gs before hval hW _ _ _ _
  exact contract H enc W base args ds gs before hval hW

theorem said : Rows.FnExactReadHeaderSaid :=
  OpenClaim.holds_of_wide 4 Tryz.f4 rfl rfl rfl rfl rfl rfl rfl ⟨rfl, rfl, rfl, rfl, rfl⟩ rfl rfl rfl rfl rfl (by kernel_rfl) Tryz.func4 (by kernel_rfl)
    (of_decide_eq_true (by kernel_rfl)) (by unfold Func.isWrapper; first | (rw [if_pos (by decide +kernel)]; kernel_rfl) | (rw [if_neg (by decide +kernel)]; exact ⟨rfl, rfl⟩))
    (fun os started H enc _ => lifted os started H enc)

theorem proved : Rows.FnExactReadHeaderCardSaid :=
  Claim7.holds_tied_plain_at .later [] [.data, .pinned] true (true, "d507c99d6f14bee755b996b985562debe8542f1af00c8753860e9dfa8f630fd8") false said (fun _ h => by cases h) (by kernel_rfl) (fun _ h => by cases h) fnExactReadHeader_row_tie rfl ⟨rfl, rfl⟩ (by kernel_rfl) rfl
    (fun f fn hf hfn => by
      obtain rfl : f = 4 := Option.some.inj ((show Tryz.prog.funcNamed "loop.example/g00904/laws.FnExactReadHeader" = some 4 by kernel_rfl).symm.trans hf) |>.symm
      obtain rfl : fn = Tryz.f4 := (Option.some.inj (Tryz.func4.symm.trans hfn)).symm
      exact ⟨by kernel_rfl, fun j t ht => by
        rw [Tryz.params4] at ht
        have hm : t ∈ [30, 2] := by simpa using Array.mem_of_getElem? ht
        have hall : ([30, 2].all fun u => !Tryz.prog.wantsStandIn u) = true := by kernel_rfl
        exact (show Tryz.prog.wantsStandIn t = false by simpa using List.all_eq_true.1 hall t hm)⟩)
    (by kernel_rfl)
end Go.Proofs.YtljphigfgffeeaaGreatDoor.fnExactReadHeader
