/- FnExactSelectionText holds: for every argument that reads as data of the parameters' types, the call returns true, and the arguments read behind it as before. The call turns no memory that was there. -/
import Derived.Test.YtakhpblefnpjcaaDoorTie
import Derived.Test.YtakhpblefnpjcaaDoorCards
import Derived.Test.YtakhpblefnpjcaaDoorTGlue
import Derived.Test.YtakhpblefnpjcaaDoorLSelText
import Derived.WalkKit
import Derived.ProofKit
import Derived.OpenShut
import Derived.JoinedCond
import Derived.LaidMore
import Derived.Lay
import Derived.SevenTiedAt
import Derived.Stop.Joined
import Derived.Stop.LaidErr
import Derived.Lib.LaidTab
namespace Go.Proofs.YtakhpblefnpjcaaDoor.fnExactSelectionText
open Go.ChangeShapes Go.WideShapes Go.ChangeAt Go.RowKit Go.Proofs.TM
set_option linter.unusedVariables false
set_option linter.unusedSimpArgs false

theorem own : ownKnob Tryd.prog.godebug = none := by kernel_rfl
theorem laidOut : laidOutB Tryd.prog = true := by kernel_rfl

theorem reads2 : Reads Tryd.prog 2 Int := reads_int Tryd.underlying2
theorem reads22 : Reads Tryd.prog 22 (List Int) := reads_slice Tryd.underlying22 reads2 (by kernel_rfl) (by decide)
theorem reads103 : Reads Tryd.prog 103 ((List Int)) := reads_struct Tryd.underlying103 (by kernel_rfl) (fread_one rfl (by kernel_rfl) reads22)
theorem reads23 : Reads Tryd.prog 23 (List ((List Int))) := reads_slice Tryd.underlying23 reads103 (by kernel_rfl) (by decide)
theorem reads25 : Reads Tryd.prog 25 (Int × (List Int) × (List Int) × (List Int) × (List Int) × (List ((List Int)))) := reads_struct Tryd.underlying25 (by kernel_rfl) (fread_cons rfl (by kernel_rfl) reads2 (fread_cons rfl (by kernel_rfl) reads22 (fread_cons rfl (by kernel_rfl) reads22 (fread_cons rfl (by kernel_rfl) reads22 (fread_cons rfl (by kernel_rfl) reads22 (fread_one rfl (by kernel_rfl) reads23))))))

theorem laws_FnExactSelectionText_app_a (a0 : (Int × (List Int) × (List Int) × (List Int) × (List Int) × (List ((List Int))))) : laws_FnExactSelectionText_r [.agg (Cel.enc a0)] = (laws_FnExactSelectionText a0).map (fun r => ((.bool r), [])) := by
  exact laws_FnExactSelectionText_app a0.1 a0.2.1 a0.2.2.1 a0.2.2.2.1 a0.2.2.2.2.1 a0.2.2.2.2.2


set_option maxRecDepth 100000 in
theorem tabs (W : World) (hX : laidMetH Tryd.prog Rows.fnExactSelectionTextRow.laid W) : ∀ p ∈ gblocks, ∃ ty fr, W.heap[p.1]? = some (.cells p.2 ty fr) := by
  rw [MakeChecks.laidMetH_plain _ _ _ (by kernel_rfl)] at hX
  have h1 : laidMet Tryd.prog (("internal/strconv.uint64pow10", Lib.tabData .u64 Lib.pow10Tab) :: (Rows.fnExactSelectionTextRow.laid.drop 3)) W := hX.tail.tail
  have ht := Lib.tabIs_of_head (g := 3) (t := 187) (e := 121) (n := 20) (by kernel_rfl) (by kernel_rfl) (by kernel_rfl) (by kernel_rfl) (by kernel_rfl) (by kernel_rfl) h1
  intro p hp
  obtain rfl := List.mem_singleton.1 hp
  unfold Lib.TabIs World.var? at ht
  rw [show Tryd.prog.globalNamed "internal/strconv.uint64pow10" = some 3 from by kernel_rfl, Option.bind_some] at ht
  split at ht
  · rename_i cs ty fr he; cases ht; exact ⟨ty, fr, he⟩
  · cases ht

set_option maxRecDepth 100000 in
theorem contract (H : Type) (enc : TypeId × Value → H) (W : World) (base : Nat) (args : Array Value) (ds gs : List (DataW H)) (before : List MemPlace)
    (hval : ∀ (j : Nat) t v, Tryd.f3.params[j]? = some t → args[j]? = some v → Value.okWide Tryd.prog W .any base t v)
    (hW : DataW.Whole enc Tryd.prog Tryd.f3.params.toList Rows.fnExactSelectionTextSpec.vars false W args.toList ds gs before) (hX : laidMetH Tryd.prog Rows.fnExactSelectionTextRow.laid W) :
    Calls Tryd.prog 3 args W fun e W' => ∃ v, e = .returned v ∧ Rows.fnExactSelectionTextSpec.post enc Tryd.prog Tryd.f3 false true false false W args v W' := by
  have hW' := hW
  obtain ⟨p, q, hA0, hV, rfl, hfz, hnd⟩ := hW
  have hA : DataW.TrodAll enc Tryd.prog W 0 (fun _ => true) true Tryd.f3.params.toList args.toList ds p := hA0
  rw [Tryd.params3] at hA hval
  obtain ⟨v0, vs0, d0, ds0, p0, q0, hargs, rfl, rfl, h0, r0⟩ := trodAll_cons hA
  obtain ⟨rfl, rfl, rfl⟩ := trodAll_nil r0
  obtain rfl : args = #[v0] := by cases args; simp_all
  obtain ⟨rfl, rfl⟩ := trodVars_none hV
  obtain ⟨a0, s0, o0⟩ := shown_struct reads25 Tryd.underlying25 (hval 0 25 v0 rfl rfl) h0
  clear hA0
  simp only [List.append_nil] at hW'
  have hlt := hW'.lt
  have hrule : laws_FnExactSelectionText_r [.agg (Cel.enc a0)] = some (.bool true, []) := (laws_FnExactSelectionText_app_a a0).trans (by rw [FnExactSelectionText_true a0 o0]; rfl)
  refine (laws_FnExactSelectionText_ok.2 _ _ _ hrule W (Old W) #[v0] (Lt.old (tabs W hX)) (VRL.cons s0 VRL.nil)).mono fun e W' ⟨v, I', μ', he, hx, _, _, _, hvr, _⟩ => ?_
  subst he
  cases hvr
  have hb := hx.below
  exact ⟨_, rfl, _, _, _, [], _, [], hW', (trodAll_cons_mk (shut_bool Tryd.underlying4 _) trodAll_mk0), (trodAll_cons_mk (Below.trod laidOut (by kernel_rfl) (of_decide_eq_true (by kernel_rfl)) h0 hb (fun x hx => hlt x (by simp [hx]))) trodAll_mk0), rfl, hb.frame _, fun h => by cases h⟩

set_option maxRecDepth 100000 in
theorem lifted (os : Os) (started : os.Started) (H : Type) (enc : TypeId × Value → H) :
    ReturnsInHanded {} Tryd.checked os 3 .any (fun w args => (Rows.fnExactSelectionTextSpec.pre enc Tryd.prog Tryd.f3 Rows.fnExactSelectionTextRow.domain false w args ∧ laidMetH Tryd.prog Rows.fnExactSelectionTextRow.laid w) ∧ sizedMet enc Tryd.prog Tryd.f3 (OpenSpec.ofChange Rows.fnExactSelectionTextSpec) false w args)
      (Rows.fnExactSelectionTextSpec.post enc Tryd.prog Tryd.f3 false true false false) := by
  refine returnsInHanded_of_change_and (C := Tryd.checked) (X := fun w _ => laidMetH Tryd.prog Rows.fnExactSelectionTextRow.laid w) (fun _ _ _ hh h => h.of_heap hh) own started (by kernel_rfl) Tryd.func3
    (ChangeSpec.witness_shaped (enc := enc) (C := Tryd.checked) (os := os) (X := fun w _ => laidMetH Tryd.prog Rows.fnExactSelectionTextRow.laid w) false (World.laidAll Tryd.prog os Rows.fnExactSelectionTextRow.laid) #[.agg #[.int .i64 0, .slice none 0 0, .slice none 0 0, .slice none 0 0, .slice none 0 0, .slice none 0 0]] 8 (World.laidAll_os _ _ _)
      (World.shaped_of_ZipB (by kernel_rfl) (by kernel_rfl)) (by kernel_rfl) (by kernel_rfl) (by kernel_rfl)
      (by rw [MakeChecks.laidMetH_plain _ _ _ (by kernel_rfl)]; exact laidMet_laidAll _ (by kernel_rfl) (by kernel_rfl))) ?_
  intro W base args ds gs before hval hW _ _ hX _
  exact contract H enc W base args ds gs before hval hW hX

theorem said : Rows.FnExactSelectionTextSaid :=
  OpenClaim.holds_of_wide 3 Tryd.f3 rfl rfl rfl rfl rfl rfl rfl ⟨rfl, rfl, rfl, rfl, rfl⟩ rfl rfl rfl rfl rfl (by kernel_rfl) Tryd.func3 (by kernel_rfl)
    (of_decide_eq_true (by kernel_rfl)) (by unfold Func.isWrapper; first | (rw [if_pos (by decide +kernel)]; kernel_rfl) | (rw [if_neg (by decide +kernel)]; exact ⟨rfl, rfl⟩))
    (fun os started H enc _ => lifted os started H enc)

theorem proved : Rows.FnExactSelectionTextCardSaid :=
  Claim7.holds_tied_plain_at .later [] [.data, .data, .data] true (true, "23f9f95a86e7045595c361f6c0aefff24e61a118fc36470284ce9e256ce1e3e9") true said (fun _ h => by cases h) (by kernel_rfl) (fun _ h => by cases h) fnExactSelectionText_row_tie rfl ⟨rfl, rfl⟩ (by kernel_rfl) rfl
    (fun f fn hf hfn => by
      obtain rfl : f = 3 := Option.some.inj ((show Tryd.prog.funcNamed "loop.example/g00904/laws.FnExactSelectionText" = some 3 by kernel_rfl).symm.trans hf) |>.symm
      obtain rfl : fn = Tryd.f3 := (Option.some.inj (Tryd.func3.symm.trans hfn)).symm
      exact ⟨by kernel_rfl, fun j t ht => by
        rw [Tryd.params3] at ht
        have hm : t ∈ [25] := by simpa using Array.mem_of_getElem? ht
        have hall : ([25].all fun u => !Tryd.prog.wantsStandIn u) = true := by kernel_rfl
        exact (show Tryd.prog.wantsStandIn t = false by simpa using List.all_eq_true.1 hall t hm)⟩)
    (by kernel_rfl)
end Go.Proofs.YtakhpblefnpjcaaDoor.fnExactSelectionText
