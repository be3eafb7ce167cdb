/- FnSpaces holds: for every argument that reads as data of the parameters' types, the call returns true, and the arguments read behind it as before. The call turns no memory that was there. -/
import Derived.Test.YtlajjnljeebkkaaGreatDoorTie
import Derived.Test.YtlajjnljeebkkaaGreatDoorCards
import Derived.Test.YtlajjnljeebkkaaGreatDoorTGlue
import Derived.Test.YtlajjnljeebkkaaGreatDoorLFC
import Derived.WalkKit
import Derived.ProofKit
import Derived.OpenShut
import Derived.JoinedCond
import Derived.LaidMore
import Derived.Lay
import Derived.SevenTiedAt
import Derived.Stop.Joined
import Derived.Stop.LaidErr
import Derived.Lib.LaidTab
namespace Go.Proofs.YtlajjnljeebkkaaGreatDoor.fnSpaces
open Go.ChangeShapes Go.WideShapes Go.ChangeAt Go.RowKit Go.Proofs.TM
set_option linter.unusedVariables false
set_option linter.unusedSimpArgs false

theorem own : ownKnob Tryz.prog.godebug = none := by kernel_rfl
theorem laidOut : laidOutB Tryz.prog = true := by kernel_rfl

theorem reads5 : Reads Tryz.prog 5 Bt := reads_byte Tryz.underlying5
theorem reads22 : Reads Tryz.prog 22 (List Bt) := reads_slice Tryz.underlying22 reads5 (by kernel_rfl) (by decide)

theorem laws_FnSpaces_app_a (a0 : (List Bt)) : laws_FnSpaces_r [.vs (rows a0)] = (laws_FnSpaces a0).map (fun r => ((.bool r), [])) := by
  exact laws_FnSpaces_app a0


set_option maxRecDepth 100000 in
theorem tabs (W : World) (hX : laidMetH Tryz.prog Rows.fnSpacesRow.laid W) : ∀ p ∈ gblocks, ∃ cs ty fr, W.heap[p.1]? = some (.cells cs ty fr) ∧ p.2 cs := by
  rw [MakeChecks.laidMetH_plain _ _ _ (by kernel_rfl)] at hX
  intro p hp
  simp only [gblocks, List.mem_cons, List.not_mem_nil, or_false] at hp
  rcases hp with rfl | rfl | rfl
  · have h1 : laidMet Tryz.prog (("internal/strconv.uint64pow10", Lib.tabData .u64 Lib.pow10Tab) :: (Rows.fnSpacesRow.laid.drop 3)) W := hX.tail.tail
    have ht := Lib.tabIs_of_head (g := 0) (t := 107) (e := 52) (n := 20) (by kernel_rfl) (by kernel_rfl) (by kernel_rfl) (by kernel_rfl) (by kernel_rfl) (by kernel_rfl) h1
    unfold Lib.TabIs at ht
    unfold World.var? at ht
    rw [show Tryz.prog.globalNamed "internal/strconv.uint64pow10" = some 0 from by kernel_rfl, Option.bind_some] at ht
    split at ht
    · rename_i cs ty fr he; cases ht; exact ⟨_, ty, fr, he, rfl⟩
    · cases ht
  · have h1 : laidMet Tryz.prog (("strconv.ErrSyntax", .iface "*errors.errorString" (.ptr (.agg [.lit (.string [105, 110, 118, 97, 108, 105, 100, 32, 115, 121, 110, 116, 97, 120])]))) :: (Rows.fnSpacesRow.laid.drop 5)) W := hX.tail.tail.tail.tail
    obtain ⟨a, s, ht, _⟩ := laid_sentinel (g := 2) (ti := 74) (tp := 126) (te := 128) (ts := 9) h1 (by kernel_rfl) (by kernel_rfl) Tryz.underlying74 (fun u h => typeName_ptr_named (nm := "errors.errorString") (by rw [show "*" ++ "errors.errorString" = "*errors.errorString" by decide]; kernel_rfl) (by kernel_rfl) (by decide) u (by rw [show "*" ++ "errors.errorString" = "*errors.errorString" by decide]; exact h)) Tryz.underlying126 Tryz.underlying128 rfl rfl Tryz.underlying9 (by kernel_rfl) (by kernel_rfl)
    unfold World.var? at ht
    rw [show Tryz.prog.globalNamed "strconv.ErrSyntax" = some 2 from by kernel_rfl, Option.bind_some] at ht
    split at ht
    · rename_i cs ty fr he; cases ht; exact ⟨_, ty, fr, he, ⟨_, _, rfl⟩⟩
    · cases ht
  · have h1 : laidMet Tryz.prog (("strconv.ErrRange", .iface "*errors.errorString" (.ptr (.agg [.lit (.string [118, 97, 108, 117, 101, 32, 111, 117, 116, 32, 111, 102, 32, 114, 97, 110, 103, 101])]))) :: (Rows.fnSpacesRow.laid.drop 4)) W := hX.tail.tail.tail
    obtain ⟨a, s, ht, _⟩ := laid_sentinel (g := 3) (ti := 74) (tp := 126) (te := 128) (ts := 9) h1 (by kernel_rfl) (by kernel_rfl) Tryz.underlying74 (fun u h => typeName_ptr_named (nm := "errors.errorString") (by rw [show "*" ++ "errors.errorString" = "*errors.errorString" by decide]; kernel_rfl) (by kernel_rfl) (by decide) u (by rw [show "*" ++ "errors.errorString" = "*errors.errorString" by decide]; exact h)) Tryz.underlying126 Tryz.underlying128 rfl rfl Tryz.underlying9 (by kernel_rfl) (by kernel_rfl)
    unfold World.var? at ht
    rw [show Tryz.prog.globalNamed "strconv.ErrRange" = some 3 from by kernel_rfl, Option.bind_some] at ht
    split at ht
    · rename_i cs ty fr he; cases ht; exact ⟨_, ty, fr, he, ⟨_, _, rfl⟩⟩
    · cases ht

set_option maxRecDepth 100000 in
theorem contract (H : Type) (enc : TypeId × Value → H) (W : World) (base : Nat) (args : Array Value) (ds gs : List (DataW H)) (before : List MemPlace)
    (hval : ∀ (j : Nat) t v, Tryz.f3.params[j]? = some t → args[j]? = some v → Value.okWide Tryz.prog W .any base t v)
    (hW : DataW.Whole enc Tryz.prog Tryz.f3.params.toList Rows.fnSpacesSpec.vars false W args.toList ds gs before) (hX : laidMetH Tryz.prog Rows.fnSpacesRow.laid W) :
    Calls Tryz.prog 3 args W fun e W' => ∃ v, e = .returned v ∧ Rows.fnSpacesSpec.post enc Tryz.prog Tryz.f3 false true false false W args v W' := by
  have hW' := hW
  obtain ⟨p, q, hA0, hV, rfl, hfz, hnd⟩ := hW
  have hA : DataW.TrodAll enc Tryz.prog W 0 (fun _ => true) true Tryz.f3.params.toList args.toList ds p := hA0
  rw [Tryz.params3] at hA hval
  obtain ⟨v0, vs0, d0, ds0, p0, q0, hargs, rfl, rfl, h0, r0⟩ := trodAll_cons hA
  obtain ⟨rfl, rfl, rfl⟩ := trodAll_nil r0
  obtain rfl : args = #[v0] := by cases args; simp_all
  obtain ⟨rfl, rfl⟩ := trodVars_none hV
  obtain ⟨a0, s0, o0⟩ := shown_slice reads22 Tryz.underlying22 (hval 0 22 v0 rfl rfl) h0
  clear hA0
  simp only [List.append_nil] at hW'
  have hlt := hW'.lt
  have hrule : laws_FnSpaces_r [.vs (rows a0)] = some (.bool true, []) := (laws_FnSpaces_app_a a0).trans (by rw [FnSpaces_true a0 o0]; rfl)
  refine (laws_FnSpaces_ok.2 _ _ _ hrule W (Old W) #[v0] (Lt.old (tabs W hX)) (VRL.cons s0 VRL.nil)).mono fun e W' ⟨v, I', μ', he, hx, _, _, _, hvr, _⟩ => ?_
  subst he
  cases hvr
  have hb := hx.below
  exact ⟨_, rfl, _, _, _, [], _, [], hW', (trodAll_cons_mk (shut_bool Tryz.underlying4 _) trodAll_mk0), (trodAll_cons_mk (Below.trod laidOut (by kernel_rfl) (of_decide_eq_true (by kernel_rfl)) h0 hb (fun x hx => hlt x (by simp [hx]))) trodAll_mk0), rfl, hb.frame _, fun h => by cases h⟩

set_option maxRecDepth 100000 in
theorem lifted (os : Os) (started : os.Started) (H : Type) (enc : TypeId × Value → H) :
    ReturnsInHanded {} Tryz.checked os 3 .any (fun w args => (Rows.fnSpacesSpec.pre enc Tryz.prog Tryz.f3 Rows.fnSpacesRow.domain false w args ∧ laidMetH Tryz.prog Rows.fnSpacesRow.laid w) ∧ sizedMet enc Tryz.prog Tryz.f3 (OpenSpec.ofChange Rows.fnSpacesSpec) false w args)
      (Rows.fnSpacesSpec.post enc Tryz.prog Tryz.f3 false true false false) := by
  refine returnsInHanded_of_change_and (C := Tryz.checked) (X := fun w _ => laidMetH Tryz.prog Rows.fnSpacesRow.laid w) (fun _ _ _ hh h => h.of_heap hh) own started (by kernel_rfl) Tryz.func3
    (ChangeSpec.witness_shaped (enc := enc) (C := Tryz.checked) (os := os) (X := fun w _ => laidMetH Tryz.prog Rows.fnSpacesRow.laid w) false (World.laidAll Tryz.prog os Rows.fnSpacesRow.laid) #[.slice none 0 0] 8 (World.laidAll_os _ _ _)
      (World.shaped_of_ZipB (by kernel_rfl) (by kernel_rfl)) (by kernel_rfl) (by kernel_rfl) (by kernel_rfl)
      (by rw [MakeChecks.laidMetH_plain _ _ _ (by kernel_rfl)]; exact laidMet_laidAll _ (by kernel_rfl) (by kernel_rfl))) ?_
  intro W base args ds gs before hval hW _ _ hX _
  exact contract H enc W base args ds gs before hval hW hX

theorem said : Rows.FnSpacesSaid :=
  OpenClaim.holds_of_wide 3 Tryz.f3 rfl rfl rfl rfl rfl rfl rfl ⟨rfl, rfl, rfl, rfl, rfl⟩ rfl rfl rfl rfl rfl (by kernel_rfl) Tryz.func3 (by kernel_rfl)
    (of_decide_eq_true (by kernel_rfl)) (by unfold Func.isWrapper; first | (rw [if_pos (by decide +kernel)]; kernel_rfl) | (rw [if_neg (by decide +kernel)]; exact ⟨rfl, rfl⟩))
    (fun os started H enc _ => lifted os started H enc)

theorem proved : Rows.FnSpacesCardSaid :=
  Claim7.holds_tied_plain_at .later [] [.data, .data, .data, .sentinel, .sentinel] true (true, "8d6db22e16bc780e22165ae874c468cf915289faa752269f47700e2ef974ea9a") true said (fun _ h => by cases h) (by kernel_rfl) (fun _ h => by cases h) fnSpaces_row_tie rfl ⟨rfl, rfl⟩ (by kernel_rfl) rfl
    (fun f fn hf hfn => by
      obtain rfl : f = 3 := Option.some.inj ((show Tryz.prog.funcNamed "loop.example/g00904/laws.FnSpaces" = some 3 by kernel_rfl).symm.trans hf) |>.symm
      obtain rfl : fn = Tryz.f3 := (Option.some.inj (Tryz.func3.symm.trans hfn)).symm
      exact ⟨by kernel_rfl, fun j t ht => by
        rw [Tryz.params3] at ht
        have hm : t ∈ [22] := by simpa using Array.mem_of_getElem? ht
        have hall : ([22].all fun u => !Tryz.prog.wantsStandIn u) = true := by kernel_rfl
        exact (show Tryz.prog.wantsStandIn t = false by simpa using List.all_eq_true.1 hall t hm)⟩)
    (by kernel_rfl)
end Go.Proofs.YtlajjnljeebkkaaGreatDoor.fnSpaces
