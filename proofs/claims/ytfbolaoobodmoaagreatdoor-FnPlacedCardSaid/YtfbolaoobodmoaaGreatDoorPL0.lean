/- Functions of the program, as functions of their data: written by program. -/
import Derived.Test.YtfbolaoobodmoaaGreatDoorTShelf
import Derived.Test.YtfbolaoobodmoaaGreatDoorTReadR
import Derived.Test.YtfbolaoobodmoaaGreatDoorTLib
import Derived.Test.YtfbolaoobodmoaaGreatDoorProg
import Derived.KernelRfl
namespace Go.Proofs.TM
open Go Go.Proofs
set_option linter.unusedVariables false
set_option linter.unusedSimpArgs false
set_option maxHeartbeats 1000000
attribute [-simp] Option.map_bind strV_some
attribute [simp] guardOn_bool sA_bslice Function.comp_def
noncomputable section
abbrev K1:=(List Str × List (Int × Str) × Int × Bool) × (Int × Int × Int × Int) × Int × Int × List (Int × Str) × List (Int × Str)
abbrev K0:=List Str × List (Int × Str) × Int × Bool
/-! laws.b10Long -/
def g100_tf:TFn:=⟨(sq [mk 2 (kb false)] [0] (.seq (.ops [mo 3 0,le 4 3,bn 5 .gtr (.t 4) (ki 1048576),mo 2 5]) (.keep (kp [(2,0)] [] 0) .ret))),[.t 2]⟩
abbrev g100_S:=Sys.on [] []
def laws_b10Long (a_code:List Bt):Option (Bool):=some ((decide ((a_code.length:Int) > 1048576)))
@[simp] def g100_O:Bool → TV × List Blk:=fun r=>((.bool r),[])
def g100_E (a:List Bt):List TV:=[(.vs (rows a))]
theorem g100_run (a_code:List Bt) :callFn (X g100_S) g100_tf (g100_E a_code) [] = (laws_b10Long a_code).map g100_O:=by
  rw [callFn_eq]
  simp (maxSteps:=2000000) (maxDischargeDepth:=8) -implicitDefEqProofs [g100_tf,laws_b10Long,g100_E] <;> (try simp only [map_to_bind,some_elim,g100_O])
def g100_r:Rule:=RlO g100_E (fun a=>laws_b10Long a) g100_O
theorem g100_ok:RuleOk Tryz.prog 4 g100_r:=ok_rlo (S:=g100_S) (tf:=g100_tf) (SysOk.on trivial trivial) (trE_ok (ks:=[]) Tryz.func4 (by kernel_rfl)) fun a=>g100_run a
@[simp] theorem g100_app (y0):g100_r [(.vs (rows y0))] = (laws_b10Long y0).map g100_O :=
  RlO_app (enc:=g100_E) (by intro a b h; simp [g100_E,Prod.ext_iff] at h ⊢; simp [h]) y0
/-! spec.l00From -/
def g101_tf:TFn:=⟨(sq [mk 2 (.c .nilp)] [0] (.seq (.ops [mo 3 0,oo 4 (.build [.nils,(.int .i64 0),(.int .u64 0)] [(0,1,(.t 3))]),bx 5 4,mo 2 5]) (.keep (kp [(2,0)] [(0,0)] 0) .ret))),[.t 2]⟩
abbrev g101_S:=Sys.on [] []
def spec_l00From (a_code:List Bt):Option (List Bt × Int × Int):=some (a_code,0,0)
@[simp] def g101_O:(List Bt × Int × Int) → TV × List Blk:=fun r=>((.ptr 0 0 0),[(.live 3 [[(.vs (rows r.1)),(.int .i64 r.2.1),(.int .u64 r.2.2)]])])
def g101_E (a:List Bt):List TV:=[(.vs (rows a))]
theorem g101_run (a_code:List Bt) :callFn (X g101_S) g101_tf (g101_E a_code) [] = (spec_l00From a_code).map g101_O:=by
  rw [callFn_eq]
  simp (maxSteps:=2000000) (maxDischargeDepth:=8) -implicitDefEqProofs [g101_tf,spec_l00From,g101_E] <;> (try simp only [map_to_bind,some_elim,g101_O])
def g101_r:Rule:=RlO g101_E (fun a=>spec_l00From a) g101_O
theorem g101_ok:RuleOk Tryz.prog 11 g101_r:=ok_rlo (S:=g101_S) (tf:=g101_tf) (SysOk.on trivial trivial) (trE_ok (ks:=[]) Tryz.func11 (by kernel_rfl)) fun a=>g101_run a
@[simp] theorem g101_app (y0):g101_r [(.vs (rows y0))] = (spec_l00From y0).map g101_O :=
  RlO_app (enc:=g101_E) (by intro a b h; simp [g101_E,Prod.ext_iff] at h ⊢; simp [h]) y0
/-! (*spec.l00Src).next -/
def g22p1_c:TC:=(sq [mo 25 0,nk 26 25,fa 27 1 26,ld 28 27,bn 29 .add (.t 28) (ki 1),nk 30 25,fa 31 1 30,⟨none,none,(.store 1 (.t 31) (.t 29))⟩] [0,3] (sq [mo 32 0,mo 33 0,nk 34 33,fa 35 2 34,ld 36 35,oo 37 (.bin .num .mul (.t 36) (.c (.int .u64 6364136223846793005))),mo 38 3,oo 39 (.conv (.toInt .u64) (.t 38)),bn 40 .add (.t 37) (.t 39),oo 41 (.bin .num .add (.t 40) (.c (.int .u64 1442695040888963407))),nk 42 32,fa 43 2 42,⟨none,none,(.store 1 (.t 43) (.t 41))⟩] [0,3] (.seq (.seq (.draw [([],mo 44 0),([0],nk 45 44),([0,1],fa 46 1 45),([0,1,2],ld 47 46),([],mo 48 0),([4],nk 49 48),([4,5],fa 50 0 49),([4,5,6],ld 51 50),([4,5,6,7],le 52 51)] [bn 53 .leq (.t 47) (.t 52)]) (.trim [0,3,53] (.cond (.t 53) (.seq (.ops [mo 54 3,mo 2 54]) (.keep (kp [(2,0)] [(0,0)] 1) .ret)) .skip))) (.trim [0] (.seq (.ops [mo 55 0,nk 56 55,fa 57 2 56,ld 58 57,oo 59 (.bin .num .shr (.t 58) (.c (.int .u64 40))),oo 60 (.bin .num .and (.t 59) (.c (.int .u64 255))),oo 61 (.conv (.toInt .i64) (.t 60)),mo 2 61]) (.keep (kp [(2,0)] [(0,0)] 1) .ret))))))
def g22_tf:TFn:=⟨(sq [mk 2 (ki 0)] [0] (sq [mk 3 (ki 0)] [0,3] (.seq (.seq (.draw [([],mo 4 0),([0],nk 5 4),([0,1],fa 6 1 5),([0,1,2],ld 7 6),([],mo 8 0),([4],nk 9 8),([4,5],fa 10 0 9),([4,5,6],ld 11 10),([4,5,6,7],le 12 11)] [bn 13 .lss (.t 7) (.t 12)]) (.trim [0,3,13] (.cond (.t 13) (.after (.draw [([],mo 14 0),([0],nk 15 14),([0,1],fa 16 0 15),([0,1,2],ld 17 16),([],mo 18 0),([4],nk 19 18),([4,5],fa 20 1 19),([4,5,6],ld 21 20)] [ia 22 1 17 21,ld 23 22,oo 24 (.conv (.toInt .i64) (.t 23)),mo 3 24]) (kp [(0,0),(3,0)] [(0,0)] 1)) (.keep (kp [(0,0),(3,0)] [(0,0)] 1) .skip)))) (.trim [0,3] g22p1_c)))),[.t 2]⟩
abbrev g22_S:=Sys.on [] []
@[reducible,simp] def g22p1_F:(List Bt × Int × Int × Int) → Out:=(fun t=>(.ret,[(2,(.int .i64 t.2.2.2))],[(.live 3 [[(.vs (rows t.1)),(.int .i64 t.2.1),(.int .u64 t.2.2.1)]])]))
def spec_l00Src_next_o9d_p1 (v2:List Bt) (v3:Int) (v4:Int) (v5:Int):Option (List Bt × Int × Int × Int):=if (IntKind.i64.wrap (v3 + 1)) ≤ (v2.length:Int) then some ((v2,(IntKind.i64.wrap (v3 + 1)),(IntKind.u64.wrap ((IntKind.u64.wrap ((IntKind.u64.wrap (v4 * 6364136223846793005)) + (IntKind.u64.wrap v5))) + 1442695040888963407)),v5)) else some ((v2,(IntKind.i64.wrap (v3 + 1)),(IntKind.u64.wrap ((IntKind.u64.wrap ((IntKind.u64.wrap (v4 * 6364136223846793005)) + (IntKind.u64.wrap v5))) + 1442695040888963407)),(IntKind.i64.wrap ((bitV .and .u64 ((shrV .u64 ((IntKind.u64.wrap ((IntKind.u64.wrap ((IntKind.u64.wrap (v4 * 6364136223846793005)) + (IntKind.u64.wrap v5))) + 1442695040888963407))) 40)) 255)))))
@[simp] theorem g22p1_eq (y0 y1 y2 y3):X g22_S g22p1_c [(0,(.ptr 0 0 0)),(3,(.int .i64 y3))] [(.live 3 [[(.vs (rows y0)),(.int .i64 y1),(.int .u64 y2)]])] = (spec_l00Src_next_o9d_p1 y0 y1 y2 y3).map g22p1_F:=by
  simp (maxSteps:=2000000) (maxDischargeDepth:=8) -implicitDefEqProofs [g22p1_c,spec_l00Src_next_o9d_p1] <;> (try simp only [map_to_bind,some_elim,g22p1_F])
def spec_l00Src_next_o9d (a1:List Bt) (a2:Int) (a3:Int):Option (List Bt × Int × Int × Int):=if a2 < (a1.length:Int) then if 0 ≤ a2 then (a1[(a2).toNat]?).bind fun x1=>(spec_l00Src_next_o9d_p1 a1 a2 a3 ((IntKind.i64.wrap ((x1.v.toNat:Int))))).bind fun r6=>some (r6.1,r6.2.1,r6.2.2.1,r6.2.2.2) else none else (spec_l00Src_next_o9d_p1 a1 a2 a3 0).bind fun r7=>some (r7.1,r7.2.1,r7.2.2.1,r7.2.2.2)
@[simp] def g22_O:(List Bt × Int × Int × Int) → TV × List Blk:=fun r=>((.int .i64 r.2.2.2),[(.live 3 [[(.vs (rows r.1)),(.int .i64 r.2.1),(.int .u64 r.2.2.1)]])])
abbrev g22_T:=List Bt × Int × Int
def g22_E (a:g22_T):List TV:=[(.ptr 0 0 0)]
def g22_B (a:g22_T):List Blk:=[(.live 3 [[(.vs (rows a.1)),(.int .i64 a.2.1),(.int .u64 a.2.2)]])]
theorem g22_run (a1:List Bt) (a2:Int) (a3:Int) :callFn (X g22_S) g22_tf (g22_E (a1,a2,a3)) (g22_B (a1,a2,a3)) = (spec_l00Src_next_o9d a1 a2 a3).map g22_O:=by
  rw [callFn_eq]
  simp (maxSteps:=2000000) (maxDischargeDepth:=8) -implicitDefEqProofs [g22_tf,spec_l00Src_next_o9d,g22_E,g22_B] <;> (try simp only [map_to_bind,some_elim,g22_O])
def g22_r:MRule:=RmO g22_E g22_B (fun a=>spec_l00Src_next_o9d a.1 a.2.1 a.2.2) g22_O
theorem g22_ok:MRuleOk Tryz.prog 55 1 g22_r:=ok_rmo (S:=g22_S) (tf:=g22_tf) (SysOk.on trivial trivial) (trE_ok (ks:=[[9],[8],[9]]) Tryz.func55 (by kernel_rfl)) (by rfl) (fun _=>by simp [g22_B]) (fun _=>by simp) fun a=>g22_run a.1 a.2.1 a.2.2
@[simp] theorem g22_app (y0 y1 y2):g22_r [(.ptr 0 0 0)] [(.live 3 [[(.vs (rows y0)),(.int .i64 y1),(.int .u64 y2)]])] = (spec_l00Src_next_o9d y0 y1 y2).map g22_O:=by
  exact RmO_app (enc:=g22_E) (encB:=g22_B) (by intro a b h h2; simp [g22_E,g22_B,Prod.ext_iff] at h h2 ⊢; simp [h,h2]) (y0,y1,y2)
/-! (*spec.l00Src).pick -/
def g23_tf:TFn:=⟨(sq [mk 4 (ki 0)] [0,1] (.seq (sq [mo 6 1,bn 7 .leq (.t 6) (ki 1)] [0,1,7] (.cond (.t 7) (.seq (.ops [mk 4 (ki 0)]) (.keep (kp [(4,0)] [(0,0)] 1) .ret)) .skip)) (.trim [0,1] (sq [mo 8 0,oo 9 (.callM 55 0 [0] [.t 8]),mo 5 9] [0,1,5] (.seq (sq [mo 10 1,bn 11 .gtr (.t 10) (ki 200)] [0,1,5,11] (.cond (.t 11) (.after (.ops [mo 12 5,bn 13 .mul (.t 12) (ki 256),mo 14 0,oo 15 (.callM 55 0 [0] [.t 14]),bn 16 .add (.t 13) (.t 15),mo 5 16]) (kp [(1,0),(5,0)] [(0,0)] 1)) (.keep (kp [(1,0),(5,0)] [(0,0)] 1) .skip))) (.trim [1,5] (.seq (.ops [mo 17 5,mo 18 1,bn 19 .rem (.t 17) (.t 18),mo 4 19]) (.keep (kp [(4,0)] [(0,0)] 1) .ret)))))))),[.t 4]⟩
abbrev g23_S:=Sys.on [] [((55,0),(1,g22_r))]
def spec_l00Src_pick_o30 (a1:List Bt) (a2:Int) (a3:Int) (a4:Int):Option (List Bt × Int × Int × Int):=if a4 ≤ 1 then some (a1,a2,a3,0) else (spec_l00Src_next_o9d a1 a2 a3).bind fun r1=>if a4 > 200 then (spec_l00Src_next_o9d r1.1 r1.2.1 r1.2.2.1).bind fun r2=>if a4 = 0 then none else some (r2.1,r2.2.1,r2.2.2.1,(Int.tmod ((IntKind.i64.wrap ((IntKind.i64.wrap (r1.2.2.2 * 256)) + r2.2.2.2))) a4)) else if a4 = 0 then none else some (r1.1,r1.2.1,r1.2.2.1,(Int.tmod r1.2.2.2 a4))
@[simp] def g23_O:(List Bt × Int × Int × Int) → TV × List Blk:=fun r=>((.int .i64 r.2.2.2),[(.live 3 [[(.vs (rows r.1)),(.int .i64 r.2.1),(.int .u64 r.2.2.1)]])])
abbrev g23_T:=List Bt × Int × Int × Int
def g23_E (a:g23_T):List TV:=[(.ptr 0 0 0),(.int .i64 a.2.2.2)]
def g23_B (a:g23_T):List Blk:=[(.live 3 [[(.vs (rows a.1)),(.int .i64 a.2.1),(.int .u64 a.2.2.1)]])]
theorem g23_run (a1:List Bt) (a2:Int) (a3:Int) (a4:Int) :callFn (X g23_S) g23_tf (g23_E (a1,a2,a3,a4)) (g23_B (a1,a2,a3,a4)) = (spec_l00Src_pick_o30 a1 a2 a3 a4).map g23_O:=by
  rw [callFn_eq]
  simp (maxSteps:=2000000) (maxDischargeDepth:=8) -implicitDefEqProofs [g23_tf,spec_l00Src_pick_o30,g23_E,g23_B] <;> (try simp only [map_to_bind,some_elim,g23_O])
def g23_r:MRule:=RmO g23_E g23_B (fun a=>spec_l00Src_pick_o30 a.1 a.2.1 a.2.2.1 a.2.2.2) g23_O
theorem g23_ok:MRuleOk Tryz.prog 23 1 g23_r:=ok_rmo (S:=g23_S) (tf:=g23_tf) (SysOk.on trivial ⟨g22_ok,trivial⟩) (trE_ok (ks:=[]) Tryz.func23 (by kernel_rfl)) (by rfl) (fun _=>by simp [g23_B]) (fun _=>by simp) fun a=>g23_run a.1 a.2.1 a.2.2.1 a.2.2.2
@[simp] theorem g23_app (y0 y1 y2 y3):g23_r [(.ptr 0 0 0),(.int .i64 y3)] [(.live 3 [[(.vs (rows y0)),(.int .i64 y1),(.int .u64 y2)]])] = (spec_l00Src_pick_o30 y0 y1 y2 y3).map g23_O:=by
  exact RmO_app (enc:=g23_E) (encB:=g23_B) (by intro a b h h2; simp [g23_E,g23_B,Prod.ext_iff] at h h2 ⊢; simp [h,h2]) (y0,y1,y2,y3)
/-! (*spec.l00Src).among -/
def g18_tf:TFn:=⟨(sq [mk 4 (ki 0)] [0,1] (.seq (.ops [mo 5 1,mo 6 0,mo 7 1,le 8 7,oo 9 (.callM 23 0 [0] [.t 6,.t 8]),ia 10 1 5 9,ld 11 10,mo 4 11]) (.keep (kp [(4,0)] [(0,0),(1,0)] 2) .ret))),[.t 4]⟩
abbrev g18_S:=Sys.on [] [((23,0),(1,g23_r))]
def spec_l00Src_among_o72 (a1:List Bt) (a2:Int) (a3:Int) (a4:List Int):Option (List Bt × Int × Int × List Int × Int):=(spec_l00Src_pick_o30 a1 a2 a3 (((a4.length:Nat):Int))).bind fun r1=>if 0 ≤ r1.2.2.2 ∧ r1.2.2.2 < ((a4.length:Nat):Int) then (a4[(r1.2.2.2).toNat]?).bind fun x2=>some (r1.1,r1.2.1,r1.2.2.1,a4,x2) else none
@[simp] def g18_O:(List Bt × Int × Int × List Int × Int) → TV × List Blk:=fun r=>((.int .i64 r.2.2.2.2),[(.live 3 [[(.vs (rows r.1)),(.int .i64 r.2.1),(.int .u64 r.2.2.1)]]),(.live 1 (rows r.2.2.2.1))])
abbrev g18_T:=List Bt × Int × Int × List Int
def g18_E (a:g18_T):List TV:=[(.ptr 0 0 0),(.hs 1 0 a.2.2.2.length true)]
def g18_B (a:g18_T):List Blk:=[(.live 3 [[(.vs (rows a.1)),(.int .i64 a.2.1),(.int .u64 a.2.2.1)]]),(.live 1 (rows a.2.2.2))]
theorem g18_run (a1:List Bt) (a2:Int) (a3:Int) (a4:List Int) :callFn (X g18_S) g18_tf (g18_E (a1,a2,a3,a4)) (g18_B (a1,a2,a3,a4)) = (spec_l00Src_among_o72 a1 a2 a3 a4).map g18_O:=by
  rw [callFn_eq]
  simp (maxSteps:=2000000) (maxDischargeDepth:=8) -implicitDefEqProofs [g18_tf,spec_l00Src_among_o72,g18_E,g18_B] <;> (try simp only [map_to_bind,some_elim,g18_O])
def g18_r:MRule:=RmO g18_E g18_B (fun a=>(spec_l00Src_among_o72 a.1 a.2.1 a.2.2.1 a.2.2.2).bind fun r=>if r.2.2.2.1.length = a.2.2.2.length then some (r.1,r.2.1,r.2.2.1,(fixLen a.2.2.2 r.2.2.2.1),r.2.2.2.2) else none) g18_O
theorem g18_ok0:MRuleOk Tryz.prog 24 2 (RmO g18_E g18_B (fun a=>spec_l00Src_among_o72 a.1 a.2.1 a.2.2.1 a.2.2.2) g18_O):=ok_rmo (S:=g18_S) (tf:=g18_tf) (SysOk.on trivial ⟨g23_ok,trivial⟩) (trE_ok (ks:=[]) Tryz.func24 (by kernel_rfl)) (by rfl) (fun _=>by simp [g18_B]) (fun _=>by simp) fun a=>g18_run a.1 a.2.1 a.2.2.1 a.2.2.2
theorem g18_ok:MRuleOk Tryz.prog 24 2 g18_r:=g18_ok0.weak fun a r hr=>by
  simp only [Option.bind_eq_some_iff] at hr
  obtain ⟨x,h1,h2⟩:=hr
  split at h2
  · rename_i hc
    simp only [Option.some.injEq] at h2
    rw [h1,← h2]
    simp [fixLen,hc]
  · cases h2
@[simp] theorem g18_app (y0 y1 y2)(y3:List Int){n1:Nat}(h1:n1 = y3.length):g18_r [(.ptr 0 0 0),(.hs 1 0 n1 true)] [(.live 3 [[(.vs (rows y0)),(.int .i64 y1),(.int .u64 y2)]]),(.live 1 (rows y3))] = ((spec_l00Src_among_o72 y0 y1 y2 y3).bind fun r=>if r.2.2.2.1.length = y3.length then some (r.1,r.2.1,r.2.2.1,(fixLen y3 r.2.2.2.1),r.2.2.2.2) else none).map g18_O:=by
  subst h1
  exact RmO_app (enc:=g18_E) (encB:=g18_B) (by intro a b h h2; simp [g18_E,g18_B,Prod.ext_iff] at h h2 ⊢; simp [h,h2]) (y0,y1,y2,y3)
/-! spec.l09Zero -/
def g102_tf:TFn:=⟨(sq [mk 0 (.c (.str []))] [] (.seq (.ops [oo 1 (.mkslice 1 [(.int .u8 0)] (ki 64) (ki 64)),oo 2 (.conv .toStr (.t 1)),mo 0 2]) (.keep (kp [(0,0)] [] 0) .ret))),[.t 0]⟩
abbrev g102_S:=Sys.on [] []
def spec_l09Zero :Option (Str):=(mkL 1 64 64 ((⟨0⟩:Bt):Bt)).bind fun l1=>some ((l1.map Bt.v))
@[simp] def g102_O:Str → TV × List Blk:=fun r=>((.str r),[])
def g102_E (a:Unit):List TV:=[]
theorem g102_run  :callFn (X g102_S) g102_tf (g102_E ()) [] = (spec_l09Zero ).map g102_O:=by
  rw [callFn_eq]
  simp (maxSteps:=2000000) (maxDischargeDepth:=8) -implicitDefEqProofs [g102_tf,spec_l09Zero,g102_E,mksliceV_typed (z:=((⟨0⟩:Bt):Bt)) (zs:=[(.int .u8 0)]) rfl (by decide)] <;> (try simp only [map_to_bind,some_elim,g102_O])
def g102_r:Rule:=RlO g102_E (fun a=>spec_l09Zero ) g102_O
theorem g102_ok:RuleOk Tryz.prog 25 g102_r:=ok_rlo (S:=g102_S) (tf:=g102_tf) (SysOk.on trivial trivial) (trE_ok (ks:=[]) Tryz.func25 (by kernel_rfl)) fun a=>g102_run 
@[simp] theorem g102_app :g102_r [] = (spec_l09Zero ).map g102_O :=
  RlO_app (enc:=g102_E) (by intro a b h; rfl) ()
/-! spec.l09New -/
def g113l1_cb:TC:=(.seq (sq [mo 6 4,mo 7 0,bn 8 .lss (.t 6) (.t 7)] [0,2,3,4,8] (.cond (.t 8) .skip (.keep (kp [(2,0),(3,0)] [(0,2),(1,2),(2,1)] 0) (.exit 0)))) (.trim [0,2,3,4] (.seq (.block 1 (.draw [([],fa 11 0 3),([0],ld 12 11),([],ca 13 25 []),([2],oo 14 (.bslice [(.str [])] 1 [(0,(.t 13))]))] [oo 15 (.append 9 1 16 (.t 12) (.t 14)),fa 16 0 3,⟨none,none,(.store 1 (.t 16) (.t 15))⟩])) (.trim [0,2,3,4] (.after (.ops [mo 9 4,bn 10 .add (.t 9) (ki 1),mo 4 10]) (kp [(0,0),(2,0),(3,0),(4,0)] [(0,2),(1,2),(4,1)] 0))))))
def g113l1_c:TC:=.loop [0,2,3,4] g113l1_cb
def g113_tf:TFn:=⟨(sq [oo 2 (.alloc [.nils,.nils,(.int .i64 0),(.bool false)])] [0,2] (sq [oo 5 (.build [.nils,.nils,(.int .i64 0),(.bool false)] [(2,1,(ki (-1)))]),oo 3 (.alloc [.nils,.nils,(.int .i64 0),(.bool false)]),⟨none,none,(.store 4 (.t 3) (.t 5))⟩] [0,2,3] (.seq (sq [mk 4 (ki 0)] [0,2,3,4] (.block 0 (.keep (kp [(0,0),(2,0),(3,0),(4,0)] [(0,2),(1,2),(1000,1)] 0) g113l1_c))) (.trim [2,3] (.seq (.ops [ln 17 4 3,⟨none,none,(.store 4 (.t 2) (.t 17))⟩]) (.keep (kp [(2,0)] [(0,2),(2,1)] 0) .ret)))))),[.cell 2 (some 4)]⟩
abbrev g113_S:=Sys.on [(25,g102_r)] []
@[reducible,simp] def g113l1_F:(Int × Bool × List Str × Int × Bool) → Out:=(fun t=>(.ext 0,[(2,(.ptr 0 0 0)),(3,(.ptr 1 0 0))],[(.live 4 [[.es,.es,(.int .i64 t.1),(.bool t.2.1)]]),(.live 4 [[(ow 2 t.2.2.1.length),.es,(.int .i64 t.2.2.2.1),(.bool t.2.2.2.2)]]),(ob 1 t.2.2.1)]))
def spec_l09New_l1_b (v1:Int) (v2:Int) (v3:Bool) (v5:Int) (v6:Bool) (v4:List Str) (v7:Int):Option ((List Str × Int) ⊕ (Int × Bool × List Str × Int × Bool)):=if v7 < v1 then (spec_l09Zero).bind fun r8=>(appL 16 v4 ((lit [r8]:List Str))).bind fun l9=>some (.inl (l9,(IntKind.i64.wrap (v7 + 1)))) else some (.inr (v2,v3,v4,v5,v6))
theorem g113l1_b_eq  (v1:Int) (v2:Int) (v3:Bool) (v5:Int) (v6:Bool) (v4:List Str) (v7:Int):X g113_S g113l1_cb (keepEnv [0,2,3,4] [(0,(.int .i64 v1)),(2,(.ptr 0 0 0)),(3,(.ptr 1 0 0)),(4,(.int .i64 v7))]) [(.live 4 [[.es,.es,(.int .i64 v2),(.bool v3)]]),(.live 4 [[(ow 2 v4.length),.es,(.int .i64 v5),(.bool v6)]]),(ob 1 v4)] = (spec_l09New_l1_b v1 v2 v3 v5 v6 v4 v7).map (Sum.elim (fun s=>(TX.nrm,[(0,(.int .i64 v1)),(2,(.ptr 0 0 0)),(3,(.ptr 1 0 0)),(4,(.int .i64 s.2))],[(.live 4 [[.es,.es,(.int .i64 v2),(.bool v3)]]),(.live 4 [[(ow 2 s.1.length),.es,(.int .i64 v5),(.bool v6)]]),(ob 1 s.1)])) g113l1_F):=by
  simp (maxSteps:=2000000) (maxDischargeDepth:=8) -implicitDefEqProofs [g113l1_cb,spec_l09New_l1_b,bslV_lit (α:=Str) (zs:=[(.str [])])] <;> (try simp only [map_to_bind,some_elim,g113l1_F])
def spec_l09New_l1 (v1:Int) (v2:Int) (v3:Bool) (v5:Int) (v6:Bool) (s:List Str × Int):Option (Int × Bool × List Str × Int × Bool):=loopO (fun s=>spec_l09New_l1_b v1 v2 v3 v5 v6 s.1 s.2) s
@[simp] theorem g113l1_eq (y0 y1 y2)(y3:List Str)(y4 y5 y6){n1:Nat}(h1:n1 = y3.length):X g113_S g113l1_c [(0,(.int .i64 y0)),(2,(.ptr 0 0 0)),(3,(.ptr 1 0 0)),(4,(.int .i64 y6))] [(.live 4 [[.es,.es,(.int .i64 y1),(.bool y2)]]),(.live 4 [[(ow 2 n1),.es,(.int .i64 y4),(.bool y5)]]),(ob 1 y3)] = (spec_l09New_l1 y0 y1 y2 y4 y5 (y3,y6)).map g113l1_F:=by
  subst h1
  exact loop_X _ _ _ _ (by intro r; first | (simp; done) | (rcases r with r | r <;> simp; done) | (rcases r with r | r | r <;> simp; done) | (rcases r with r | r | r | r <;> simp)) (fun s=>g113l1_b_eq  y0 y1 y2 y4 y5 s.1 s.2) (y3,y6)
@[simp] theorem g113l1_eq_3 (y0 y1 y2 y3 y4 y5):X g113_S g113l1_c [(0,(.int .i64 y0)),(2,(.ptr 0 0 0)),(3,(.ptr 1 0 0)),(4,(.int .i64 y5))] [(.live 4 [[.es,.es,(.int .i64 y1),(.bool y2)]]),(.live 4 [[.es,.es,(.int .i64 y3),(.bool y4)]]),.dead] = (spec_l09New_l1 y0 y1 y2 y3 y4 (([]:List Str),y5)).map g113l1_F :=
  g113l1_eq  y0 y1 y2 ([]:List Str) y3 y4 y5 rfl
def spec_l09New (a_blocks:Int):Option (List Str × Int × Bool):=(spec_l09New_l1 a_blocks 0 false ((-1)) false ((([]:List Str),0))).bind fun r10=>some (r10.2.2.1,r10.2.2.2.1,r10.2.2.2.2)
@[simp] def g113_O:(List Str × Int × Bool) → TV × List Blk:=fun r=>((.agg [(ow 1 r.1.length),.es,(.int .i64 r.2.1),(.bool r.2.2)]),[(.live 4 [[(ow 1 r.1.length),.es,(.int .i64 r.2.1),(.bool r.2.2)]]),(ob 1 r.1)])
def g113_E (a:Int):List TV:=[(.int .i64 a)]
theorem g113_run (a_blocks:Int) :callFn (X g113_S) g113_tf (g113_E a_blocks) [] = (spec_l09New a_blocks).map g113_O:=by
  rw [callFn_eq]
  simp (maxSteps:=2000000) (maxDischargeDepth:=8) -implicitDefEqProofs [g113_tf,spec_l09New,g113_E,bslV_lit (α:=Str) (zs:=[(.str [])])] <;> (try simp only [map_to_bind,some_elim,g113_O])
def g113_r:Rule:=RlO g113_E (fun a=>spec_l09New a) g113_O
theorem g113_ok:RuleOk Tryz.prog 104 g113_r:=ok_rlo (S:=g113_S) (tf:=g113_tf) (SysOk.on ⟨g102_ok,trivial⟩ trivial) (trE_ok (ks:=[[0,2,3,4],[4]]) Tryz.func104 (by kernel_rfl)) fun a=>g113_run a
@[simp] theorem g113_app (y0):g113_r [(.int .i64 y0)] = (spec_l09New y0).map g113_O :=
  RlO_app (enc:=g113_E) (by intro a b h; simp [g113_E,Prod.ext_iff] at h ⊢; simp [h]) y0
/-! spec.l01Bytes -/
def g90l1_cb:TC:=(.seq (sq [mo 8 6,mo 9 1,bn 10 .lss (.t 8) (.t 9)] [0,1,5,6,10] (.cond (.t 10) .skip (.keep (kp [(5,1)] [(0,1)] 0) (.exit 0)))) (.trim [0,1,5,6] (.seq (.block 1 (.ops [mo 13 5,mo 14 0,mo 15 6,oo 16 (.conv (.toInt .u64) (.t 15)),oo 17 (.bin .num .mul (.c (.int .u64 8)) (.t 16)),bn 18 .shr (.t 14) (.t 17),bn 19 .and (.t 18) (ki 255),oo 20 (.conv (.toInt .u8) (.t 19)),oo 21 (.bslice [(.int .u8 0)] 1 [(0,(.t 20))]),oo 22 (.append 5 1 1 (.t 13) (.t 21)),mo 5 22])) (.trim [0,1,5,6] (.after (.ops [mo 11 6,bn 12 .add (.t 11) (ki 1),mo 6 12]) (kp [(0,0),(1,0),(5,1),(6,0)] [(2,1)] 0))))))
def g90l1_c:TC:=.loop [0,1,5,6] g90l1_cb
def g90_tf:TFn:=⟨(sq [mk 4 (.c (.str []))] [0,1] (sq [oo 7 (.bslice [(.int .u8 0)] 0 []),mo 5 7] [0,1,5] (.seq (sq [mk 6 (ki 0)] [0,1,5,6] (.block 0 (.keep (kp [(0,0),(1,0),(5,1),(6,0)] [(1000,1)] 0) g90l1_c))) (.trim [5] (.seq (.ops [mo 23 5,oo 24 (.conv .toStr (.t 23)),mo 4 24]) (.keep (kp [(4,0)] [] 0) .ret)))))),[.t 4]⟩
abbrev g90_S:=Sys.on [] []
@[reducible,simp] def g90l1_F:(List Bt) → Out:=(fun t=>(.ext 0,[(5,(ow 0 t.length))],[(ob 1 t)]))
def spec_l01Bytes_l1_b (v1:Int) (v2:Int) (v3:List Bt) (v4:Int):Option ((List Bt × Int) ⊕ (List Bt)):=if v4 < v2 then if (IntKind.u64.wrap (8 * ((IntKind.u64.wrap v4)))) < 0 then none else (appL 1 v3 ((lit [(⟨UInt8.ofNat ((IntKind.u8.wrap ((bitV .and .i64 ((shrV .i64 v1 ((IntKind.u64.wrap (8 * ((IntKind.u64.wrap v4))))))) 255)))).toNat⟩:Bt)]:List Bt))).bind fun l5=>some (.inl (l5,(IntKind.i64.wrap (v4 + 1)))) else some (.inr v3)
theorem g90l1_b_eq  (v1:Int) (v2:Int) (v3:List Bt) (v4:Int):X g90_S g90l1_cb (keepEnv [0,1,5,6] [(0,(.int .i64 v1)),(1,(.int .i64 v2)),(5,(ow 0 v3.length)),(6,(.int .i64 v4))]) [(ob 1 v3)] = (spec_l01Bytes_l1_b v1 v2 v3 v4).map (Sum.elim (fun s=>(TX.nrm,[(0,(.int .i64 v1)),(1,(.int .i64 v2)),(5,(ow 0 s.1.length)),(6,(.int .i64 s.2))],[(ob 1 s.1)])) g90l1_F):=by
  simp (maxSteps:=2000000) (maxDischargeDepth:=8) -implicitDefEqProofs [g90l1_cb,spec_l01Bytes_l1_b,bslV_lit (α:=Bt) (zs:=[(.int .u8 0)])] <;> (try simp only [map_to_bind,some_elim,g90l1_F])
def spec_l01Bytes_l1 (v1:Int) (v2:Int) (s:List Bt × Int):Option (List Bt):=loopO (fun s=>spec_l01Bytes_l1_b v1 v2 s.1 s.2) s
@[simp] theorem g90l1_eq (y0 y1)(y2:List Bt)(y3){n1:Nat}(h1:n1 = y2.length):X g90_S g90l1_c [(0,(.int .i64 y0)),(1,(.int .i64 y1)),(5,(ow 0 n1)),(6,(.int .i64 y3))] [(ob 1 y2)] = (spec_l01Bytes_l1 y0 y1 (y2,y3)).map g90l1_F:=by
  subst h1
  exact loop_X _ _ _ _ (by intro r; first | (simp; done) | (rcases r with r | r <;> simp; done) | (rcases r with r | r | r <;> simp; done) | (rcases r with r | r | r | r <;> simp)) (fun s=>g90l1_b_eq  y0 y1 s.1 s.2) (y2,y3)
@[simp] theorem g90l1_eq_2 (y0 y1 y2):X g90_S g90l1_c [(0,(.int .i64 y0)),(1,(.int .i64 y1)),(5,.es),(6,(.int .i64 y2))] [.dead] = (spec_l01Bytes_l1 y0 y1 (([]:List Bt),y2)).map g90l1_F :=
  g90l1_eq  y0 y1 ([]:List Bt) y2 rfl
def spec_l01Bytes (a_n:Int) (a_size:Int):Option (Str):=(spec_l01Bytes_l1 a_n a_size ((([]:List Bt),0))).bind fun r6=>some ((r6.map Bt.v))
@[simp] def g90_O:Str → TV × List Blk:=fun r=>((.str r),[])
def g90_E (a:Int × Int):List TV:=[(.int .i64 a.1),(.int .i64 a.2)]
theorem g90_run (a_n:Int) (a_size:Int) :callFn (X g90_S) g90_tf (g90_E (a_n,a_size)) [] = (spec_l01Bytes a_n a_size).map g90_O:=by
  rw [callFn_eq]
  simp (maxSteps:=2000000) (maxDischargeDepth:=8) -implicitDefEqProofs [g90_tf,spec_l01Bytes,g90_E,bslV_lit (α:=Bt) (zs:=[(.int .u8 0)])] <;> (try simp only [map_to_bind,some_elim,g90_O])
def g90_r:Rule:=RlO g90_E (fun a=>spec_l01Bytes a.1 a.2) g90_O
theorem g90_ok:RuleOk Tryz.prog 127 g90_r:=ok_rlo (S:=g90_S) (tf:=g90_tf) (SysOk.on trivial trivial) (trE_ok (ks:=[[0,1,5,6]]) Tryz.func127 (by kernel_rfl)) fun a=>g90_run a.1 a.2
@[simp] theorem g90_app (y0 y1):g90_r [(.int .i64 y0),(.int .i64 y1)] = (spec_l01Bytes y0 y1).map g90_O :=
  RlO_app (enc:=g90_E) (by intro a b h; simp [g90_E,Prod.ext_iff] at h ⊢; simp [h]) (y0,y1)
/-! spec.l01Pad -/
def g114_tf:TFn:=⟨(sq [mk 4 (.c (.str []))] [0,1] (.seq (sq [mo 5 0,oo 6 (.len true (.t 5)),mo 7 1,bn 8 .geq (.t 6) (.t 7)] [0,1,8] (.cond (.t 8) (.seq (.ops [mo 9 0,mo 4 9]) (.keep (kp [(4,0)] [] 0) .ret)) .skip)) (.trim [0,1] (.seq (.ops [mo 10 0,mo 11 1,mo 12 0,oo 13 (.len true (.t 12)),bn 14 .sub (.t 11) (.t 13),oo 15 (.mkslice 1 [(.int .u8 0)] (.t 14) (.t 14)),oo 16 (.conv .toStr (.t 15)),oo 17 (.bin .str .add (.t 10) (.t 16)),mo 4 17]) (.keep (kp [(4,0)] [] 0) .ret))))),[.t 4]⟩
abbrev g114_S:=Sys.on [] []
def spec_l01Pad (a_s:Str) (a_n:Int):Option (Str):=if (a_s.length:Int) ≥ a_n then some a_s else (mkL 1 ((IntKind.i64.wrap (a_n - ((a_s.length:Int))))) ((IntKind.i64.wrap (a_n - ((a_s.length:Int))))) ((⟨0⟩:Bt):Bt)).bind fun l1=>if a_s.length + ((l1.map Bt.v)).length ≤ 9223372036854775807 then some ((a_s ++ (l1.map Bt.v))) else none
@[simp] def g114_O:Str → TV × List Blk:=fun r=>((.str r),[])
def g114_E (a:Str × Int):List TV:=[(.str a.1),(.int .i64 a.2)]
theorem g114_run (a_s:Str) (a_n:Int) :callFn (X g114_S) g114_tf (g114_E (a_s,a_n)) [] = (spec_l01Pad a_s a_n).map g114_O:=by
  rw [callFn_eq]
  simp (maxSteps:=2000000) (maxDischargeDepth:=8) -implicitDefEqProofs [g114_tf,spec_l01Pad,g114_E,mksliceV_typed (z:=((⟨0⟩:Bt):Bt)) (zs:=[(.int .u8 0)]) rfl (by decide)] <;> (try simp only [map_to_bind,some_elim,g114_O])
def g114_r:Rule:=RlO g114_E (fun a=>spec_l01Pad a.1 a.2) g114_O
theorem g114_ok:RuleOk Tryz.prog 77 g114_r:=ok_rlo (S:=g114_S) (tf:=g114_tf) (SysOk.on trivial trivial) (trE_ok (ks:=[]) Tryz.func77 (by kernel_rfl)) fun a=>g114_run a.1 a.2
@[simp] theorem g114_app (y0 y1):g114_r [(.str y0),(.int .i64 y1)] = (spec_l01Pad y0 y1).map g114_O :=
  RlO_app (enc:=g114_E) (by intro a b h; simp [g114_E,Prod.ext_iff] at h ⊢; simp [h]) (y0,y1)
/-! spec.l10Encode -/
def g76_tf:TFn:=⟨(sq [bx 1 0,mk 2 (.c (.str []))] [1] (.seq (.draw [([],ca 4 127 [ki 1,ki 1]),([0],oo 5 (.bin .str .add (.c (.str [65,82,82,83])) (.t 4))),([],fa 6 0 1),([2],ld 7 6),([0,2,3],ca 8 127 [.t 7,ki 2]),([0,1,2,3,4],oo 9 (.bin .str .add (.t 5) (.t 8))),([],fa 10 1 1),([6],ld 11 10),([0,2,3,4,6,7],ca 12 127 [.t 11,ki 2]),([0,1,2,3,4,5,6,7,8],oo 13 (.bin .str .add (.t 9) (.t 12))),([],fa 14 2 1),([10],ld 15 14),([0,2,3,4,6,7,8,10,11],ca 16 127 [.t 15,ki 8]),([0,1,2,3,4,5,6,7,8,9,10,11,12],oo 17 (.bin .str .add (.t 13) (.t 16))),([],fa 18 3 1),([14],ld 19 18),([0,2,3,4,6,7,8,10,11,12,14,15],ca 20 127 [.t 19,ki 8])] [oo 21 (.bin .str .add (.t 17) (.t 20)),mo 3 21]) (.trim [3] (sq [mo 22 3,ca 23 77 [.t 22,ki 32],mo 3 23] [3] (.seq (.ops [mo 24 3,mo 25 3,oo 26 (.bin .str .add (.t 24) (.t 25)),mo 2 26]) (.keep (kp [(2,0)] [] 0) .ret)))))),[.t 2]⟩
abbrev g76_S:=Sys.on [(127,g90_r),(77,g114_r)] []
def spec_l10Encode (a_s:Int × Int × Int × Int):Option (Str):=(spec_l01Bytes 1 1).bind fun r1=>if (([65,82,82,83]:Str)).length + r1.length ≤ 9223372036854775807 then (spec_l01Bytes a_s.1 2).bind fun r2=>if ((([65,82,82,83]:Str) ++ r1)).length + r2.length ≤ 9223372036854775807 then (spec_l01Bytes a_s.2.1 2).bind fun r3=>if (((([65,82,82,83]:Str) ++ r1) ++ r2)).length + r3.length ≤ 9223372036854775807 then (spec_l01Bytes a_s.2.2.1 8).bind fun r4=>if ((((([65,82,82,83]:Str) ++ r1) ++ r2) ++ r3)).length + r4.length ≤ 9223372036854775807 then (spec_l01Bytes a_s.2.2.2 8).bind fun r5=>if (((((([65,82,82,83]:Str) ++ r1) ++ r2) ++ r3) ++ r4)).length + r5.length ≤ 9223372036854775807 then (spec_l01Pad ((((((([65,82,82,83]:Str) ++ r1) ++ r2) ++ r3) ++ r4) ++ r5)) 32).bind fun r6=>if r6.length + r6.length ≤ 9223372036854775807 then some ((r6 ++ r6)) else none else none else none else none else none else none
@[simp] def g76_O:Str → TV × List Blk:=fun r=>((.str r),[])
def g76_E (a:(Int × Int × Int × Int)):List TV:=[(.agg [(.int .i64 a.1),(.int .i64 a.2.1),(.int .i64 a.2.2.1),(.int .i64 a.2.2.2)])]
theorem g76_run (a_s:Int × Int × Int × Int) :callFn (X g76_S) g76_tf (g76_E a_s) [] = (spec_l10Encode a_s).map g76_O:=by
  rw [callFn_eq]
  simp (maxSteps:=2000000) (maxDischargeDepth:=8) -implicitDefEqProofs [g76_tf,spec_l10Encode,g76_E] <;> (try simp only [map_to_bind,some_elim,g76_O])
def g76_r:Rule:=RlO g76_E (fun a=>spec_l10Encode a) g76_O
theorem g76_ok:RuleOk Tryz.prog 105 g76_r:=ok_rlo (S:=g76_S) (tf:=g76_tf) (SysOk.on ⟨g90_ok,g114_ok,trivial⟩ trivial) (trE_ok (ks:=[[17]]) Tryz.func105 (by kernel_rfl)) fun a=>g76_run a
@[simp] theorem g76_app (y0 y1 y2 y3):g76_r [(.agg [(.int .i64 y0),(.int .i64 y1),(.int .i64 y2),(.int .i64 y3)])] = (spec_l10Encode ((y0,y1,y2,y3))).map g76_O :=
  RlO_app (enc:=g76_E) (by intro a b h; simp [g76_E,Prod.ext_iff] at h ⊢; simp [h]) ((y0,y1,y2,y3))
/-! spec.l10Format -/
def g77_tf:TFn:=⟨(sq [bx 1 0,oo 2 (.alloc [.nils,.nils,(.int .i64 0),(.bool false)])] [1,2] (sq [fa 4 0 1,ld 5 4,ca 6 104 [.t 5],oo 3 (.alloc [.nils,.nils,(.int .i64 0),(.bool false)]),⟨none,none,(.store 4 (.t 3) (.t 6))⟩] [1,2,3] (.seq (.draw [([],fa 7 0 3),([0],ld 8 7),([],ln 9 4 1),([2],ca 10 105 [.t 9])] [oo 11 (.iaddr 1 (.t 8) (ki 0)),⟨none,none,(.store 1 (.t 11) (.t 10))⟩]) (.trim [2,3] (.seq (.ops [ln 12 4 3,⟨none,none,(.store 4 (.t 2) (.t 12))⟩]) (.keep (kp [(2,0)] [(1,2),(3,1)] 0) .ret)))))),[.cell 2 (some 4)]⟩
abbrev g77_S:=Sys.on [(104,g113_r),(105,g76_r)] []
def spec_l10Format (a_s:Int × Int × Int × Int):Option (List Str × Int × Bool):=(spec_l09New a_s.1).bind fun r1=>(spec_l10Encode a_s).bind fun r2=>if 0 ≤ (0:Int) ∧ (0:Int) < ((r1.1.length:Nat):Int) then (r1.1[((0:Int)).toNat]?).bind fun x3=>some ((r1.1.set ((0:Int)).toNat r2),r1.2.1,r1.2.2) else none
@[simp] def g77_O:(List Str × Int × Bool) → TV × List Blk:=fun r=>((.agg [(ow 1 r.1.length),.es,(.int .i64 r.2.1),(.bool r.2.2)]),[(.live 4 [[(ow 1 r.1.length),.es,(.int .i64 r.2.1),(.bool r.2.2)]]),(ob 1 r.1)])
def g77_E (a:(Int × Int × Int × Int)):List TV:=[(.agg [(.int .i64 a.1),(.int .i64 a.2.1),(.int .i64 a.2.2.1),(.int .i64 a.2.2.2)])]
theorem g77_run (a_s:Int × Int × Int × Int) :callFn (X g77_S) g77_tf (g77_E a_s) [] = (spec_l10Format a_s).map g77_O:=by
  rw [callFn_eq]
  simp (maxSteps:=2000000) (maxDischargeDepth:=8) -implicitDefEqProofs [g77_tf,spec_l10Format,g77_E] <;> (try simp only [map_to_bind,some_elim,g77_O])
def g77_r:Rule:=RlO g77_E (fun a=>spec_l10Format a) g77_O
theorem g77_ok:RuleOk Tryz.prog 75 g77_r:=ok_rlo (S:=g77_S) (tf:=g77_tf) (SysOk.on ⟨g113_ok,g76_ok,trivial⟩ trivial) (trE_ok (ks:=[[4]]) Tryz.func75 (by kernel_rfl)) fun a=>g77_run a
@[simp] theorem g77_app (y0 y1 y2 y3):g77_r [(.agg [(.int .i64 y0),(.int .i64 y1),(.int .i64 y2),(.int .i64 y3)])] = (spec_l10Format ((y0,y1,y2,y3))).map g77_O :=
  RlO_app (enc:=g77_E) (by intro a b h; simp [g77_E,Prod.ext_iff] at h ⊢; simp [h]) ((y0,y1,y2,y3))
/-! spec.l09Read -/
def g103l1_cb:TC:=(.seq (sq [mo 12 5,bn 13 .geq (.t 12) (ki 0)] [0,1,5,13] (.cond (.t 13) .skip (.keep (kp [(0,0),(1,0)] [] 0) (.exit 0)))) (.trim [0,1,5] (.seq (.block 1 (sq [mo 16 0,nk 17 16,fa 18 1 17,ld 19 18,mo 20 5,ia 21 2 19 20,fa 22 0 21,ld 23 22,mo 24 1,bn 25 .eql (.t 23) (.t 24)] [0,1,5,25] (.cond (.t 25) (.seq (.ops [mo 26 0,nk 27 26,fa 28 1 27,ld 29 28,mo 30 5,ia 31 2 29 30,fa 32 1 31,ld 33 32,mo 4 33]) (.keep (kp [(4,0)] [] 0) .ret)) .skip))) (.trim [0,1,5] (.after (.ops [mo 14 5,bn 15 .sub (.t 14) (ki 1),mo 5 15]) (kp [(0,0),(1,0),(5,0)] [] 0))))))
def g103l1_c:TC:=.loop [0,1,5] g103l1_cb
def g103_tf:TFn:=⟨(sq [mk 4 (.c (.str []))] [0,1] (.seq (sq [mo 6 0,nk 7 6,fa 8 1 7,ld 9 8,le 10 9,bn 11 .sub (.t 10) (ki 1),mo 5 11] [0,1,5] (.block 0 (.keep (kp [(0,0),(1,0),(5,0)] [] 0) g103l1_c))) (.trim [0,1] (.seq (.ops [mo 34 0,nk 35 34,fa 36 0 35,ld 37 36,mo 38 1,ia 39 1 37 38,ld 40 39,mo 4 40]) (.keep (kp [(4,0)] [] 0) .ret))))),[.t 4]⟩
abbrev g103_S:=Sys.on [] []
def spec_l09Read_l1_b (v1:List Str) (v2:List (Int × Str)) (v3:Int) (v4:Bool) (v5:Int) (v6:Int):Option ((Int) ⊕ ((List Str × (List (Int × Str)) × Int × Bool × Int) ⊕ (Str))):=if v6 ≥ 0 then if 0 ≤ v6 then (v2[(v6).toNat]?).bind fun x7=>if x7.1 = v5 then if 0 ≤ v6 then (v2[(v6).toNat]?).bind fun x8=>some (.inr (.inr x8.2)) else none else some (.inl ((IntKind.i64.wrap (v6 - 1)))) else none else some (.inr (.inl (v1,v2,v3,v4,v5)))
theorem g103l1_b_eq (q0:List TV) (v1:List Str) (v2:List (Int × Str)) (v3:Int) (v4:Bool) (v5:Int) (v6:Int):X g103_S g103l1_cb (keepEnv [0,1,5] [(0,(.vp ((.vs (rows v1))::(.vs (rows v2))::(.int .i64 v3)::(.bool v4)::q0))),(1,(.int .i64 v5)),(5,(.int .i64 v6))]) [] = (spec_l09Read_l1_b v1 v2 v3 v4 v5 v6).map (Sum.elim (fun s=>(TX.nrm,[(0,(.vp ((.vs (rows v1))::(.vs (rows v2))::(.int .i64 v3)::(.bool v4)::q0))),(1,(.int .i64 v5)),(5,(.int .i64 s))],[])) (Sum.elim (fun t=>(.ext 0,[(0,(.vp ((.vs (rows t.1))::(.vs (rows t.2.1))::(.int .i64 t.2.2.1)::(.bool t.2.2.2.1)::q0))),(1,(.int .i64 t.2.2.2.2))],[])) (fun t=>(.ret,[(4,(.str t))],[])))):=by
  simp (maxSteps:=2000000) (maxDischargeDepth:=8) -implicitDefEqProofs [g103l1_cb,spec_l09Read_l1_b] <;> (try simp only [map_to_bind,some_elim])
def spec_l09Read_l1 (v1:List Str) (v2:List (Int × Str)) (v3:Int) (v4:Bool) (v5:Int) (s:Int):Option ((List Str × (List (Int × Str)) × Int × Bool × Int) ⊕ (Str)):=loopO (fun s=>spec_l09Read_l1_b v1 v2 v3 v4 v5 s) s
@[simp] theorem g103l1_eq (q0:List TV)(y0 y1 y2 y3 y4 y5):X g103_S g103l1_c [(0,(.vp ((.vs (rows y0))::(.vs (rows y1))::(.int .i64 y2)::(.bool y3)::q0))),(1,(.int .i64 y4)),(5,(.int .i64 y5))] [] = (spec_l09Read_l1 y0 y1 y2 y3 y4 y5).map (Sum.elim (fun t=>(.ext 0,[(0,(.vp ((.vs (rows t.1))::(.vs (rows t.2.1))::(.int .i64 t.2.2.1)::(.bool t.2.2.2.1)::q0))),(1,(.int .i64 t.2.2.2.2))],[])) (fun t=>(.ret,[(4,(.str t))],[]))):=by
  exact loop_X _ _ _ _ (by intro r; first | (simp; done) | (rcases r with r | r <;> simp; done) | (rcases r with r | r | r <;> simp; done) | (rcases r with r | r | r | r <;> simp)) (fun s=>g103l1_b_eq q0 y0 y1 y2 y3 y4 s) y5
def spec_l09Read (a_d:K0) (a_k:Int):Option (Str):=(spec_l09Read_l1 a_d.1 a_d.2.1 a_d.2.2.1 a_d.2.2.2 a_k (((IntKind.i64.wrap ((a_d.2.1.length:Int) - 1))))).bind fun r9=>Sum.elim (fun u10=>if 0 ≤ u10.2.2.2.2 then (u10.1[(u10.2.2.2.2).toNat]?).bind fun x12=>some x12 else none) (fun u11=>some u11) r9
@[simp] def g103_O:Str → TV × List Blk:=fun r=>((.str r),[])
def g103_E (a:K0 × Int × List TV):List TV:=[(.vp ((.vs (rows a.1.1))::(.vs (rows a.1.2.1))::(.int .i64 a.1.2.2.1)::(.bool a.1.2.2.2)::a.2.2)),(.int .i64 a.2.1)]
theorem g103_run (a_d:K0) (a_k:Int) (q0:List TV):callFn (X g103_S) g103_tf (g103_E (a_d,a_k,q0)) [] = (spec_l09Read a_d a_k).map g103_O:=by
  rw [callFn_eq]
  simp (maxSteps:=2000000) (maxDischargeDepth:=8) -implicitDefEqProofs [g103_tf,spec_l09Read,g103_E] <;> (try simp only [map_to_bind,some_elim,g103_O])
def g103_r:Rule:=RlO g103_E (fun a=>spec_l09Read a.1 a.2.1) g103_O
theorem g103_ok:RuleOk Tryz.prog 107 g103_r:=ok_rlo (S:=g103_S) (tf:=g103_tf) (SysOk.on trivial trivial) (trE_ok (ks:=[[0,1,5]]) Tryz.func107 (by kernel_rfl)) fun a=>g103_run a.1 a.2.1 a.2.2
@[simp] theorem g103_app (y0 y1 y2 y3 y4)(q0:List TV):g103_r [(.vp ((.vs (rows y0))::(.vs (rows y1))::(.int .i64 y2)::(.bool y3)::q0)),(.int .i64 y4)] = (spec_l09Read ((y0,y1,y2,y3)) y4).map g103_O :=
  RlO_app (enc:=g103_E) (by intro a b h; simp [g103_E,Prod.ext_iff] at h ⊢; simp [h]) ((y0,y1,y2,y3),y4,q0)
/-! spec.l00In -/
def g121_tf:TFn:=⟨(sq [mk 6 (kb false)] [0,1,2] (.seq (.after (.ops [mo 7 0,mo 8 1,bn 9 .geq (.t 7) (.t 8),mo 10 9,⟨(some 11),(some (10,true)),(.mv (.t 0))⟩,⟨(some 12),(some (10,true)),(.mv (.t 2))⟩,⟨(some 13),(some (10,true)),(.bin .num .leq (.t 11) (.t 12))⟩,pk 14 (.t 10) (.t 13) (kb false),mo 6 14]) (kp [(6,0)] [] 0)) (.keep (kp [(6,0)] [] 0) .ret))),[.t 6]⟩
abbrev g121_S:=Sys.on [] []
def spec_l00In (a_n:Int) (a_low:Int) (a_high:Int):Option (Bool):=if a_n ≥ a_low then some ((decide (a_n ≤ a_high))) else some false
@[simp] def g121_O:Bool → TV × List Blk:=fun r=>((.bool r),[])
def g121_E (a:Int × Int × Int):List TV:=[(.int .i64 a.1),(.int .i64 a.2.1),(.int .i64 a.2.2)]
theorem g121_run (a_n:Int) (a_low:Int) (a_high:Int) :callFn (X g121_S) g121_tf (g121_E (a_n,a_low,a_high)) [] = (spec_l00In a_n a_low a_high).map g121_O:=by
  rw [callFn_eq]
  simp (maxSteps:=2000000) (maxDischargeDepth:=8) -implicitDefEqProofs [g121_tf,spec_l00In,g121_E] <;> (try simp only [map_to_bind,some_elim,g121_O])
def g121_r:Rule:=RlO g121_E (fun a=>spec_l00In a.1 a.2.1 a.2.2) g121_O
theorem g121_ok:RuleOk Tryz.prog 44 g121_r:=ok_rlo (S:=g121_S) (tf:=g121_tf) (SysOk.on trivial trivial) (trE_ok (ks:=[]) Tryz.func44 (by kernel_rfl)) fun a=>g121_run a.1 a.2.1 a.2.2
@[simp] theorem g121_app (y0 y1 y2):g121_r [(.int .i64 y0),(.int .i64 y1),(.int .i64 y2)] = (spec_l00In y0 y1 y2).map g121_O :=
  RlO_app (enc:=g121_E) (by intro a b h; simp [g121_E,Prod.ext_iff] at h ⊢; simp [h]) (y0,y1,y2)
/-! spec.l01Within -/
def g78_tf:TFn:=⟨(sq [mk 6 (kb false)] [0,1,2] (.seq (.after (.ops [mo 7 2,ca 8 44 [.t 7,ki 1,ki 8],mo 9 8,⟨(some 10),(some (9,true)),(.mv (.t 1))⟩,⟨(some 11),(some (9,true)),(.mv (.t 0))⟩,⟨(some 12),(some (9,true)),(.len true (.t 11))⟩,⟨(some 13),(some (9,true)),(.call 44 [.t 10,ki 0,.t 12])⟩,pk 14 (.t 9) (.t 13) (kb false),mo 15 14,⟨(some 16),(some (15,true)),(.mv (.t 2))⟩,⟨(some 17),(some (15,true)),(.mv (.t 0))⟩,⟨(some 18),(some (15,true)),(.len true (.t 17))⟩,⟨(some 19),(some (15,true)),(.mv (.t 1))⟩,⟨(some 20),(some (15,true)),(.bin .num .sub (.t 18) (.t 19))⟩,⟨(some 21),(some (15,true)),(.bin .num .leq (.t 16) (.t 20))⟩,pk 22 (.t 15) (.t 21) (kb false),mo 6 22]) (kp [(6,0)] [] 0)) (.keep (kp [(6,0)] [] 0) .ret))),[.t 6]⟩
abbrev g78_S:=Sys.on [(44,g121_r)] []
def spec_l01Within (a_s:Str) (a_at:Int) (a_size:Int):Option (Bool):=(spec_l00In a_size 1 8).bind fun r1=>if r1 = true then (spec_l00In a_at 0 ((a_s.length:Int))).bind fun r2=>if r2 = true then some ((decide (a_size ≤ (IntKind.i64.wrap ((a_s.length:Int) - a_at))))) else some false else some false
@[simp] def g78_O:Bool → TV × List Blk:=fun r=>((.bool r),[])
def g78_E (a:Str × Int × Int):List TV:=[(.str a.1),(.int .i64 a.2.1),(.int .i64 a.2.2)]
theorem g78_run (a_s:Str) (a_at:Int) (a_size:Int) :callFn (X g78_S) g78_tf (g78_E (a_s,a_at,a_size)) [] = (spec_l01Within a_s a_at a_size).map g78_O:=by
  rw [callFn_eq]
  simp (maxSteps:=2000000) (maxDischargeDepth:=8) -implicitDefEqProofs [g78_tf,spec_l01Within,g78_E] <;> (try simp only [map_to_bind,some_elim,g78_O])
def g78_r:Rule:=RlO g78_E (fun a=>spec_l01Within a.1 a.2.1 a.2.2) g78_O
theorem g78_ok:RuleOk Tryz.prog 149 g78_r:=ok_rlo (S:=g78_S) (tf:=g78_tf) (SysOk.on ⟨g121_ok,trivial⟩ trivial) (trE_ok (ks:=[]) Tryz.func149 (by kernel_rfl)) fun a=>g78_run a.1 a.2.1 a.2.2
@[simp] theorem g78_app (y0 y1 y2):g78_r [(.str y0),(.int .i64 y1),(.int .i64 y2)] = (spec_l01Within y0 y1 y2).map g78_O :=
  RlO_app (enc:=g78_E) (by intro a b h; simp [g78_E,Prod.ext_iff] at h ⊢; simp [h]) (y0,y1,y2)
/-! spec.l01GetUint -/
def g62l2_cb:TC:=(.seq (sq [mo 28 9,bn 29 .geq (.t 28) (ki 0)] [0,1,8,9,29] (.cond (.t 29) .skip (.keep (kp [(8,0)] [] 0) (.exit 0)))) (.trim [0,1,8,9] (.seq (.block 1 (.ops [mo 32 8,bn 33 .mul (.t 32) (ki 256),mo 34 0,mo 35 1,mo 36 9,bn 37 .add (.t 35) (.t 36),oo 38 (.index (.t 34) (.t 37)),oo 39 (.conv (.toInt .i64) (.t 38)),bn 40 .add (.t 33) (.t 39),mo 8 40])) (.trim [0,1,8,9] (.after (.ops [mo 30 9,bn 31 .sub (.t 30) (ki 1),mo 9 31]) (kp [(0,0),(1,0),(8,0),(9,0)] [] 0))))))
def g62l2_c:TC:=.loop [0,1,8,9] g62l2_cb
def g62p1_c:TC:=(sq [mk 8 (ki 0)] [0,1,2,8] (.seq (sq [mo 26 2,bn 27 .sub (.t 26) (ki 1),mo 9 27] [0,1,8,9] (.block 0 (.keep (kp [(0,0),(1,0),(8,0),(9,0)] [] 0) g62l2_c))) (.trim [8] (.seq (.ops [mo 41 8,mo 6 41,mk 7 (kb true)]) (.keep (kp [(6,0),(7,0)] [] 0) .ret)))))
def g62_tf:TFn:=⟨(sq [mk 6 (ki 0),mk 7 (kb false)] [0,1,2] (.seq (sq [mo 10 0,mo 11 1,mo 12 2,ca 13 149 [.t 10,.t 11,.t 12],nt 14 13,mo 15 14,⟨(some 16),(some (15,false)),(.mv (.t 2))⟩,⟨(some 17),(some (15,false)),(.bin .num .eql (.t 16) (ki 8))⟩,⟨(some 18),(some (15,false)),(.mv (.t 17))⟩,⟨(some 19),(some (18,true)),(.mv (.t 0))⟩,⟨(some 20),(some (18,true)),(.mv (.t 1))⟩,⟨(some 21),(some (18,true)),(.bin .num .add (.t 20) (ki 7))⟩,⟨(some 22),(some (18,true)),(.index (.t 19) (.t 21))⟩,⟨(some 23),(some (18,true)),(.bin .num .gtr (.t 22) (.c (.int .u8 127)))⟩,⟨(some 24),(some (15,false)),(.pick (.t 18) (.t 23) (kb false))⟩,pk 25 (.t 15) (kb true) (.t 24)] [0,1,2,25] (.cond (.t 25) (.seq (.ops [mk 6 (ki 0),mk 7 (kb false)]) (.keep (kp [(6,0),(7,0)] [] 0) .ret)) (.keep (kp [(0,0),(1,0),(2,0)] [] 0) .skip))) (.trim [0,1,2] g62p1_c))),[.t 6,.t 7]⟩
abbrev g62_S:=Sys.on [(149,g78_r)] []
@[reducible,simp] def g62l2_F:Int → Out:=(fun t=>(.ext 0,[(8,(.int .i64 t))],[]))
def spec_l01GetUint_l2_b (v6:Str) (v7:Int) (v8:Int) (v9:Int):Option ((Int × Int) ⊕ (Int)):=if v9 ≥ 0 then if 0 ≤ (IntKind.i64.wrap (v7 + v9)) then (v6[((IntKind.i64.wrap (v7 + v9))).toNat]?).bind fun (b10:UInt8)=>some (.inl ((IntKind.i64.wrap ((IntKind.i64.wrap (v8 * 256)) + (IntKind.i64.wrap ((b10.toNat:Int))))),(IntKind.i64.wrap (v9 - 1)))) else none else some (.inr v8)
theorem g62l2_b_eq  (v6:Str) (v7:Int) (v8:Int) (v9:Int):X g62_S g62l2_cb (keepEnv [0,1,8,9] [(0,(.str v6)),(1,(.int .i64 v7)),(8,(.int .i64 v8)),(9,(.int .i64 v9))]) [] = (spec_l01GetUint_l2_b v6 v7 v8 v9).map (Sum.elim (fun s=>(TX.nrm,[(0,(.str v6)),(1,(.int .i64 v7)),(8,(.int .i64 s.1)),(9,(.int .i64 s.2))],[])) g62l2_F):=by
  simp (maxSteps:=2000000) (maxDischargeDepth:=8) -implicitDefEqProofs [g62l2_cb,spec_l01GetUint_l2_b] <;> (try simp only [map_to_bind,some_elim,g62l2_F])
def spec_l01GetUint_l2 (v6:Str) (v7:Int) (s:Int × Int):Option (Int):=loopO (fun s=>spec_l01GetUint_l2_b v6 v7 s.1 s.2) s
@[simp] theorem g62l2_eq (y0 y1 y2 y3):X g62_S g62l2_c [(0,(.str y0)),(1,(.int .i64 y1)),(8,(.int .i64 y2)),(9,(.int .i64 y3))] [] = (spec_l01GetUint_l2 y0 y1 (y2,y3)).map g62l2_F:=by
  exact loop_X _ _ _ _ (by intro r; first | (simp; done) | (rcases r with r | r <;> simp; done) | (rcases r with r | r | r <;> simp; done) | (rcases r with r | r | r | r <;> simp)) (fun s=>g62l2_b_eq  y0 y1 s.1 s.2) (y2,y3)
@[reducible,simp] def g62p1_F:(Int × Bool) → Out:=(fun t=>(.ret,[(6,(.int .i64 t.1)),(7,(.bool t.2))],[]))
def spec_l01GetUint_p1 (v3:Str) (v4:Int) (v5:Int):Option (Int × Bool):=(spec_l01GetUint_l2 v3 v4 ((0,(IntKind.i64.wrap (v5 - 1))))).bind fun r11=>some ((r11,true))
@[simp] theorem g62p1_eq (y0 y1 y2):X g62_S g62p1_c [(0,(.str y0)),(1,(.int .i64 y1)),(2,(.int .i64 y2))] [] = (spec_l01GetUint_p1 y0 y1 y2).map g62p1_F:=by
  simp (maxSteps:=2000000) (maxDischargeDepth:=8) -implicitDefEqProofs [g62p1_c,spec_l01GetUint_p1] <;> (try simp only [map_to_bind,some_elim,g62p1_F])
def spec_l01GetUint (a_s:Str) (a_at:Int) (a_size:Int):Option (Int × Bool):=(spec_l01Within a_s a_at a_size).bind fun r1=>if ¬(r1 = true) then some (0,false) else if a_size = 8 then if 0 ≤ (IntKind.i64.wrap (a_at + 7)) then (a_s[((IntKind.i64.wrap (a_at + 7))).toNat]?).bind fun (b2:UInt8)=>if (b2.toNat:Int) > 127 then some (0,false) else (spec_l01GetUint_p1 a_s a_at a_size).bind fun r12=>some (r12.1,r12.2) else none else (spec_l01GetUint_p1 a_s a_at a_size).bind fun r13=>some (r13.1,r13.2)
@[simp] def g62_O:(Int × Bool) → TV × List Blk:=fun r=>((.tup [(.int .i64 r.1),(.bool r.2)]),[])
def g62_E (a:Str × Int × Int):List TV:=[(.str a.1),(.int .i64 a.2.1),(.int .i64 a.2.2)]
theorem g62_run (a_s:Str) (a_at:Int) (a_size:Int) :callFn (X g62_S) g62_tf (g62_E (a_s,a_at,a_size)) [] = (spec_l01GetUint a_s a_at a_size).map g62_O:=by
  rw [callFn_eq]
  simp (maxSteps:=2000000) (maxDischargeDepth:=8) -implicitDefEqProofs [g62_tf,spec_l01GetUint,g62_E] <;> (try simp only [map_to_bind,some_elim,g62_O])
def g62_r:Rule:=RlO g62_E (fun a=>spec_l01GetUint a.1 a.2.1 a.2.2) g62_O
theorem g62_ok:RuleOk Tryz.prog 140 g62_r:=ok_rlo (S:=g62_S) (tf:=g62_tf) (SysOk.on ⟨g78_ok,trivial⟩ trivial) (trE_ok (ks:=[[0,1,8,9]]) Tryz.func140 (by kernel_rfl)) fun a=>g62_run a.1 a.2.1 a.2.2
@[simp] theorem g62_app (y0 y1 y2):g62_r [(.str y0),(.int .i64 y1),(.int .i64 y2)] = (spec_l01GetUint y0 y1 y2).map g62_O :=
  RlO_app (enc:=g62_E) (by intro a b h; simp [g62_E,Prod.ext_iff] at h ⊢; simp [h]) (y0,y1,y2)
/-! spec.ValidSuper -/
def g63_tf:TFn:=⟨(sq [bx 1 0,mk 2 (kb false)] [1] (.seq (.after (.ops [fa 3 0 1,ld 4 3,ca 5 44 [.t 4,ki 16,ki 256],mo 6 5,⟨(some 7),(some (6,true)),(.faddr 1 (.t 1))⟩,⟨(some 8),(some (6,true)),(.load none (.t 7))⟩,⟨(some 9),(some (6,true)),(.call 44 [.t 8,ki 8,ki 64])⟩,pk 10 (.t 6) (.t 9) (kb false),mo 11 10,⟨(some 12),(some (11,true)),(.faddr 1 (.t 1))⟩,⟨(some 13),(some (11,true)),(.load none (.t 12))⟩,⟨(some 14),(some (11,true)),(.faddr 0 (.t 1))⟩,⟨(some 15),(some (11,true)),(.load none (.t 14))⟩,⟨(some 16),(some (11,true)),(.bin .num .sub (.t 15) (ki 4))⟩,⟨(some 17),(some (11,true)),(.bin .num .leq (.t 13) (.t 16))⟩,pk 18 (.t 11) (.t 17) (kb false),mo 19 18,⟨(some 20),(some (19,true)),(.faddr 2 (.t 1))⟩,⟨(some 21),(some (19,true)),(.load none (.t 20))⟩,⟨(some 22),(some (19,true)),(.call 44 [.t 21,ki 0,ki 1000000000000])⟩,pk 23 (.t 19) (.t 22) (kb false),mo 24 23,⟨(some 25),(some (24,true)),(.faddr 3 (.t 1))⟩,⟨(some 26),(some (24,true)),(.load none (.t 25))⟩,⟨(some 27),(some (24,true)),(.call 44 [.t 26,ki 0,ki 1000000000000])⟩,pk 28 (.t 24) (.t 27) (kb false),mo 2 28]) (kp [(2,0)] [] 0)) (.keep (kp [(2,0)] [] 0) .ret))),[.t 2]⟩
abbrev g63_S:=Sys.on [(44,g121_r)] []
def spec_ValidSuper (a_s:Int × Int × Int × Int):Option (Bool):=(spec_l00In a_s.1 16 256).bind fun r1=>if r1 = true then (spec_l00In a_s.2.1 8 64).bind fun r2=>if r2 = true then if a_s.2.1 ≤ (IntKind.i64.wrap (a_s.1 - 4)) then (spec_l00In a_s.2.2.1 0 1000000000000).bind fun r3=>if r3 = true then (spec_l00In a_s.2.2.2 0 1000000000000).bind fun r4=>some r4 else some false else some false else some false else some false
@[simp] def g63_O:Bool → TV × List Blk:=fun r=>((.bool r),[])
def g63_E (a:(Int × Int × Int × Int)):List TV:=[(.agg [(.int .i64 a.1),(.int .i64 a.2.1),(.int .i64 a.2.2.1),(.int .i64 a.2.2.2)])]
theorem g63_run (a_s:Int × Int × Int × Int) :callFn (X g63_S) g63_tf (g63_E a_s) [] = (spec_ValidSuper a_s).map g63_O:=by
  rw [callFn_eq]
  simp (maxSteps:=2000000) (maxDischargeDepth:=8) -implicitDefEqProofs [g63_tf,spec_ValidSuper,g63_E] <;> (try simp only [map_to_bind,some_elim,g63_O])
def g63_r:Rule:=RlO g63_E (fun a=>spec_ValidSuper a) g63_O
theorem g63_ok:RuleOk Tryz.prog 43 g63_r:=ok_rlo (S:=g63_S) (tf:=g63_tf) (SysOk.on ⟨g121_ok,trivial⟩ trivial) (trE_ok (ks:=[]) Tryz.func43 (by kernel_rfl)) fun a=>g63_run a
@[simp] theorem g63_app (y0 y1 y2 y3):g63_r [(.agg [(.int .i64 y0),(.int .i64 y1),(.int .i64 y2),(.int .i64 y3)])] = (spec_ValidSuper ((y0,y1,y2,y3))).map g63_O :=
  RlO_app (enc:=g63_E) (by intro a b h; simp [g63_E,Prod.ext_iff] at h ⊢; simp [h]) ((y0,y1,y2,y3))
/-! spec.DecodeSuper -/
def g54p2_c:TC:=(sq [mo 39 6] [0,2,4,5,6,9,39] (.block 2 (sq [bn 43 .eql (.t 39) (ki 0),mo 42 43] [0,2,4,5,6,9,39,42] (.cond (.t 42) (.after (.ops [mo 44 9,fa 45 0 4,⟨none,none,(.store 1 (.t 45) (.t 44))⟩]) (kp [(0,0),(2,0),(4,0),(5,0),(6,0)] [(0,0),(1,0)] 0)) (sq [bn 47 .eql (.t 39) (ki 1),mo 46 47] [0,2,4,5,6,9,39,46] (.cond (.t 46) (.after (.ops [mo 48 9,fa 49 1 4,⟨none,none,(.store 1 (.t 49) (.t 48))⟩]) (kp [(0,0),(2,0),(4,0),(5,0),(6,0)] [(0,0),(1,0)] 0)) (sq [bn 51 .eql (.t 39) (ki 2),mo 50 51] [0,2,4,5,6,9,50] (.cond (.t 50) (.after (.ops [mo 52 9,fa 53 2 4,⟨none,none,(.store 1 (.t 53) (.t 52))⟩]) (kp [(0,0),(2,0),(4,0),(5,0),(6,0)] [(0,0),(1,0)] 0)) (.after (.ops [mo 40 9,fa 41 3 4,⟨none,none,(.store 1 (.t 41) (.t 40))⟩]) (kp [(0,0),(2,0),(4,0),(5,0),(6,0)] [(0,0),(1,0)] 0))))))))))
def g54l1_cb:TC:=(.seq (sq [mo 16 6,bn 17 .lss (.t 16) (ki 4)] [0,2,4,5,6,17] (.cond (.t 17) .skip (.keep (kp [(0,0),(2,0),(4,0),(5,0)] [(0,0),(1,0)] 0) (.exit 0)))) (.trim [0,2,4,5,6] (.seq (.block 1 (sq [oo 20 (.bslice [(.int .i64 0)] 4 [(0,(ki 5)),(1,(ki 7)),(2,(ki 9)),(3,(ki 17))]),mo 21 6,ia 22 1 20 21,ld 23 22,mo 7 23] [0,2,4,5,6,7] (sq [oo 24 (.bslice [(.int .i64 0)] 4 [(0,(ki 2)),(1,(ki 2)),(2,(ki 8)),(3,(ki 8))]),mo 25 6,ia 26 1 24 25,ld 27 26,mo 8 27] [0,2,4,5,6,7,8] (sq [mo 29 0,mo 30 7,mo 31 8,ca 32 140 [.t 29,.t 30,.t 31],mo 28 32,oo 33 (.ext (.t 28) 0),oo 34 (.ext (.t 28) 1),mo 9 33,mo 10 34] [0,2,4,5,6,9,10] (.seq (.after (.ops [mo 35 5,mo 36 35,⟨(some 37),(some (36,true)),(.mv (.t 10))⟩,pk 38 (.t 36) (.t 37) (kb false),mo 5 38]) (kp [(0,0),(2,0),(4,0),(5,0),(6,0),(9,0)] [(0,0),(1,0)] 0)) (.trim [0,2,4,5,6,9] g54p2_c)))))) (.trim [0,2,4,5,6] (.after (.ops [mo 18 6,bn 19 .add (.t 18) (ki 1),mo 6 19]) (kp [(0,0),(2,0),(4,0),(5,0),(6,0)] [(0,0),(1,0)] 0))))))
def g54l1_c:TC:=.loop [0,2,4,5,6] g54l1_cb
def g54_tf:TFn:=⟨(sq [oo 2 (.alloc [(.int .i64 0),(.int .i64 0),(.int .i64 0),(.int .i64 0)]),mk 3 (kb false)] [0,2] (.seq (sq [mo 11 0,oo 12 (.len true (.t 11)),bn 13 .neq (.t 12) (ki 64)] [0,2,13] (.cond (.t 13) (.seq (.ops [oo 14 (.build [(.int .i64 0),(.int .i64 0),(.int .i64 0),(.int .i64 0)] []),⟨none,none,(.store 4 (.t 2) (.t 14))⟩,mk 3 (kb false)]) (.keep (kp [(2,0),(3,0)] [(0,0)] 0) .ret)) .skip)) (.trim [0,2] (sq [oo 15 (.build [(.int .i64 0),(.int .i64 0),(.int .i64 0),(.int .i64 0)] []),oo 4 (.alloc [(.int .i64 0),(.int .i64 0),(.int .i64 0),(.int .i64 0)]),⟨none,none,(.store 4 (.t 4) (.t 15))⟩] [0,2,4] (sq [mk 5 (kb true)] [0,2,4,5] (.seq (sq [mk 6 (ki 0)] [0,2,4,5,6] (.block 0 (.keep (kp [(0,0),(2,0),(4,0),(5,0),(6,0)] [(0,0),(1,0)] 0) g54l1_c))) (.trim [0,2,4,5] (.seq (sq [mo 54 5,nt 55 54,mo 56 55,⟨(some 57),(some (56,false)),(.load (some 4) (.t 4))⟩,⟨(some 58),(some (56,false)),(.call 43 [.t 57])⟩,⟨(some 59),(some (56,false)),(.un .not (.t 58))⟩,pk 60 (.t 56) (kb true) (.t 59),mo 61 60,⟨(some 62),(some (61,false)),(.load (some 4) (.t 4))⟩,⟨(some 63),(some (61,false)),(.call 105 [.t 62])⟩,⟨(some 64),(some (61,false)),(.mv (.t 0))⟩,⟨(some 65),(some (61,false)),(.bin .str .neq (.t 63) (.t 64))⟩,pk 66 (.t 61) (kb true) (.t 65)] [2,4,66] (.cond (.t 66) (.seq (.ops [oo 67 (.build [(.int .i64 0),(.int .i64 0),(.int .i64 0),(.int .i64 0)] []),⟨none,none,(.store 4 (.t 2) (.t 67))⟩,mk 3 (kb false)]) (.keep (kp [(2,0),(3,0)] [(0,0)] 0) .ret)) .skip)) (.trim [2,4] (.seq (.ops [ln 68 4 4,⟨none,none,(.store 4 (.t 2) (.t 68))⟩,mk 3 (kb true)]) (.keep (kp [(2,0),(3,0)] [(0,0)] 0) .ret))))))))))),[.cell 2 (some 4),.t 3]⟩
abbrev g54_S:=Sys.on [(140,g62_r),(43,g63_r),(105,g76_r)] []
@[reducible,simp] def g54p2_F:(Str × (Int × Int × Int × Int) × (Int × Int × Int × Int) × Bool × Int) → Out:=(fun t=>(.nrm,[(0,(.str t.1)),(2,(.ptr 0 0 0)),(4,(.ptr 1 0 0)),(5,(.bool t.2.2.2.1)),(6,(.int .i64 t.2.2.2.2))],[(.live 4 [[(.int .i64 t.2.1.1),(.int .i64 t.2.1.2.1),(.int .i64 t.2.1.2.2.1),(.int .i64 t.2.1.2.2.2)]]),(.live 4 [[(.int .i64 t.2.2.1.1),(.int .i64 t.2.2.1.2.1),(.int .i64 t.2.2.1.2.2.1),(.int .i64 t.2.2.1.2.2.2)]])]))
def spec_DecodeSuper_p2 (v9:Str) (v10:Int × Int × Int × Int) (v11:Int × Int × Int × Int) (v12:Bool) (v13:Int) (v14:Int):Option (Str × (Int × Int × Int × Int) × (Int × Int × Int × Int) × Bool × Int):=if v13 = 0 then some ((v9,v10,(v14,v11.2.1,v11.2.2.1,v11.2.2.2),v12,v13)) else if v13 = 1 then some ((v9,v10,(v11.1,v14,v11.2.2.1,v11.2.2.2),v12,v13)) else if v13 = 2 then some ((v9,v10,(v11.1,v11.2.1,v14,v11.2.2.2),v12,v13)) else some ((v9,v10,(v11.1,v11.2.1,v11.2.2.1,v14),v12,v13))
@[simp] theorem g54p2_eq (y0 y1 y2 y3 y4 y5 y6 y7 y8 y9 y10 y11):X g54_S g54p2_c [(0,(.str y0)),(2,(.ptr 0 0 0)),(4,(.ptr 1 0 0)),(5,(.bool y9)),(6,(.int .i64 y10)),(9,(.int .i64 y11))] [(.live 4 [[(.int .i64 y1),(.int .i64 y2),(.int .i64 y3),(.int .i64 y4)]]),(.live 4 [[(.int .i64 y5),(.int .i64 y6),(.int .i64 y7),(.int .i64 y8)]])] = (spec_DecodeSuper_p2 y0 ((y1,y2,y3,y4)) ((y5,y6,y7,y8)) y9 y10 y11).map g54p2_F:=by
  simp (maxSteps:=2000000) (maxDischargeDepth:=8) -implicitDefEqProofs [g54p2_c,spec_DecodeSuper_p2,bslV_lit (α:=Int) (zs:=[(.int .i64 0)])] <;> (try simp only [map_to_bind,some_elim,g54p2_F])
@[reducible,simp] def g54l1_F:(Str × (Int × Int × Int × Int) × (Int × Int × Int × Int) × Bool) → Out:=(fun t=>(.ext 0,[(0,(.str t.1)),(2,(.ptr 0 0 0)),(4,(.ptr 1 0 0)),(5,(.bool t.2.2.2))],[(.live 4 [[(.int .i64 t.2.1.1),(.int .i64 t.2.1.2.1),(.int .i64 t.2.1.2.2.1),(.int .i64 t.2.1.2.2.2)]]),(.live 4 [[(.int .i64 t.2.2.1.1),(.int .i64 t.2.2.1.2.1),(.int .i64 t.2.2.1.2.2.1),(.int .i64 t.2.2.1.2.2.2)]])]))
def spec_DecodeSuper_l1_b (v1:Str) (v2:Int × Int × Int × Int) (v3:Int × Int × Int × Int) (v4:Bool) (v5:Int):Option ((Str × (Int × Int × Int × Int) × (Int × Int × Int × Int) × Bool × Int) ⊕ (Str × (Int × Int × Int × Int) × (Int × Int × Int × Int) × Bool)):=if v5 < 4 then if 0 ≤ v5 ∧ v5 < (((lit [5,7,9,17]:List Int).length:Nat):Int) then (((lit [5,7,9,17]:List Int))[(v5).toNat]?).bind fun x6=>if 0 ≤ v5 ∧ v5 < (((lit [2,2,8,8]:List Int).length:Nat):Int) then (((lit [2,2,8,8]:List Int))[(v5).toNat]?).bind fun x7=>(spec_l01GetUint v1 x6 x7).bind fun r8=>if v4 = true then (spec_DecodeSuper_p2 v1 v2 v3 r8.2 v5 r8.1).bind fun r15=>some (.inl (r15.1,r15.2.1,r15.2.2.1,r15.2.2.2.1,(IntKind.i64.wrap (r15.2.2.2.2 + 1)))) else (spec_DecodeSuper_p2 v1 v2 v3 false v5 r8.1).bind fun r16=>some (.inl (r16.1,r16.2.1,r16.2.2.1,r16.2.2.2.1,(IntKind.i64.wrap (r16.2.2.2.2 + 1)))) else none else none else some (.inr (v1,v2,v3,v4))
theorem g54l1_b_eq  (v1:Str) (v2:Int × Int × Int × Int) (v3:Int × Int × Int × Int) (v4:Bool) (v5:Int):X g54_S g54l1_cb (keepEnv [0,2,4,5,6] [(0,(.str v1)),(2,(.ptr 0 0 0)),(4,(.ptr 1 0 0)),(5,(.bool v4)),(6,(.int .i64 v5))]) [(.live 4 [[(.int .i64 v2.1),(.int .i64 v2.2.1),(.int .i64 v2.2.2.1),(.int .i64 v2.2.2.2)]]),(.live 4 [[(.int .i64 v3.1),(.int .i64 v3.2.1),(.int .i64 v3.2.2.1),(.int .i64 v3.2.2.2)]])] = (spec_DecodeSuper_l1_b v1 v2 v3 v4 v5).map (Sum.elim (fun s=>(TX.nrm,[(0,(.str s.1)),(2,(.ptr 0 0 0)),(4,(.ptr 1 0 0)),(5,(.bool s.2.2.2.1)),(6,(.int .i64 s.2.2.2.2))],[(.live 4 [[(.int .i64 s.2.1.1),(.int .i64 s.2.1.2.1),(.int .i64 s.2.1.2.2.1),(.int .i64 s.2.1.2.2.2)]]),(.live 4 [[(.int .i64 s.2.2.1.1),(.int .i64 s.2.2.1.2.1),(.int .i64 s.2.2.1.2.2.1),(.int .i64 s.2.2.1.2.2.2)]])])) g54l1_F):=by
  simp (maxSteps:=2000000) (maxDischargeDepth:=8) -implicitDefEqProofs [g54l1_cb,spec_DecodeSuper_l1_b,bslV_lit (α:=Int) (zs:=[(.int .i64 0)])] <;> (try simp only [map_to_bind,some_elim,g54l1_F])
def spec_DecodeSuper_l1  (s:Str × (Int × Int × Int × Int) × (Int × Int × Int × Int) × Bool × Int):Option (Str × (Int × Int × Int × Int) × (Int × Int × Int × Int) × Bool):=loopO (fun s=>spec_DecodeSuper_l1_b  s.1 s.2.1 s.2.2.1 s.2.2.2.1 s.2.2.2.2) s
@[simp] theorem g54l1_eq (y0 y1 y2 y3 y4 y5 y6 y7 y8 y9 y10):X g54_S g54l1_c [(0,(.str y0)),(2,(.ptr 0 0 0)),(4,(.ptr 1 0 0)),(5,(.bool y9)),(6,(.int .i64 y10))] [(.live 4 [[(.int .i64 y1),(.int .i64 y2),(.int .i64 y3),(.int .i64 y4)]]),(.live 4 [[(.int .i64 y5),(.int .i64 y6),(.int .i64 y7),(.int .i64 y8)]])] = (spec_DecodeSuper_l1  (y0,(y1,y2,y3,y4),(y5,y6,y7,y8),y9,y10)).map g54l1_F:=by
  exact loop_X _ _ _ _ (by intro r; first | (simp; done) | (rcases r with r | r <;> simp; done) | (rcases r with r | r | r <;> simp; done) | (rcases r with r | r | r | r <;> simp)) (fun s=>g54l1_b_eq   s.1 s.2.1 s.2.2.1 s.2.2.2.1 s.2.2.2.2) (y0,(y1,y2,y3,y4),(y5,y6,y7,y8),y9,y10)
def spec_DecodeSuper (a_block:Str):Option ((Int × Int × Int × Int) × Bool):=if ¬((a_block.length:Int) = 64) then some ((0,0,0,0),false) else (spec_DecodeSuper_l1 ((a_block,(0,0,0,0),(0,0,0,0),true,0))).bind fun r17=>if ¬(r17.2.2.2 = true) then some ((0,0,0,0),false) else (spec_ValidSuper r17.2.2.1).bind fun r18=>if ¬(r18 = true) then some ((0,0,0,0),false) else (spec_l10Encode r17.2.2.1).bind fun r19=>if ¬(r19 = r17.1) then some ((0,0,0,0),false) else some (r17.2.2.1,true)
@[simp] def g54_O:((Int × Int × Int × Int) × Bool) → TV × List Blk:=fun r=>((.tup [(.agg [(.int .i64 r.1.1),(.int .i64 r.1.2.1),(.int .i64 r.1.2.2.1),(.int .i64 r.1.2.2.2)]),(.bool r.2)]),[(.live 4 [[(.int .i64 r.1.1),(.int .i64 r.1.2.1),(.int .i64 r.1.2.2.1),(.int .i64 r.1.2.2.2)]])])
def g54_E (a:Str):List TV:=[(.str a)]
theorem g54_run (a_block:Str) :callFn (X g54_S) g54_tf (g54_E a_block) [] = (spec_DecodeSuper a_block).map g54_O:=by
  rw [callFn_eq]
  simp (maxSteps:=2000000) (maxDischargeDepth:=8) -implicitDefEqProofs [g54_tf,spec_DecodeSuper,g54_E,bslV_lit (α:=Int) (zs:=[(.int .i64 0)])] <;> (try simp only [map_to_bind,some_elim,g54_O])
def g54_r:Rule:=RlO g54_E (fun a=>spec_DecodeSuper a) g54_O
theorem g54_ok:RuleOk Tryz.prog 138 g54_r:=ok_rlo (S:=g54_S) (tf:=g54_tf) (SysOk.on ⟨g62_ok,g63_ok,g76_ok,trivial⟩ trivial) (trE_ok (ks:=[[0,2,4,5,6]]) Tryz.func138 (by kernel_rfl)) fun a=>g54_run a
@[simp] theorem g54_app (y0):g54_r [(.str y0)] = (spec_DecodeSuper y0).map g54_O :=
  RlO_app (enc:=g54_E) (by intro a b h; simp [g54_E,Prod.ext_iff] at h ⊢; simp [h]) y0
/-! spec.l10Slot -/
def g104_tf:TFn:=⟨(sq [oo 4 (.alloc [(.int .i64 0),(.int .i64 0),(.int .i64 0),(.int .i64 0)]),mk 5 (kb false)] [0,1,4] (sq [mo 9 0,mo 10 1,ca 11 107 [.t 9,.t 10],ca 12 138 [.t 11],mo 8 12,oo 13 (.ext (.t 8) 0),oo 14 (.ext (.t 8) 1),oo 6 (.alloc [(.int .i64 0),(.int .i64 0),(.int .i64 0),(.int .i64 0)]),⟨none,none,(.store 4 (.t 6) (.t 13))⟩,mo 7 14] [0,1,4,6,7] (.seq (.seq (.draw [([],mo 15 7),([0],nt 16 15),([0,1],mo 17 16),([0,1,2],⟨(some 18),(some (17,false)),(.faddr 0 (.t 6))⟩),([0,1,2,3],⟨(some 19),(some (17,false)),(.load none (.t 18))⟩),([0,1,2],⟨(some 20),(some (17,false)),(.mv (.t 0))⟩),([0,1,2,5],⟨(some 21),(some (17,false)),(.nilchk (.t 20))⟩),([0,1,2,5,6],⟨(some 22),(some (17,false)),(.faddr 0 (.t 21))⟩),([0,1,2,5,6,7],⟨(some 23),(some (17,false)),(.load none (.t 22))⟩),([0,1,2,5,6,7,8],⟨(some 24),(some (17,false)),(.len false (.t 23))⟩),([0,1,2,3,4,5,6,7,8,9],⟨(some 25),(some (17,false)),(.bin .num .neq (.t 19) (.t 24))⟩),([0,1,2,3,4,5,6,7,8,9,10],pk 26 (.t 17) (kb true) (.t 25)),([0,1,2,3,4,5,6,7,8,9,10,11],mo 27 26),([0,1,2,3,4,5,6,7,8,9,10,11,12],⟨(some 28),(some (27,false)),(.faddr 3 (.t 6))⟩),([0,1,2,3,4,5,6,7,8,9,10,11,12,13],⟨(some 29),(some (27,false)),(.load none (.t 28))⟩),([0,1,2,3,4,5,6,7,8,9,10,11,12,13,14],⟨(some 30),(some (27,false)),(.bin .num .rem (.t 29) (ki 2))⟩),([0,1,2,3,4,5,6,7,8,9,10,11,12],⟨(some 31),(some (27,false)),(.mv (.t 1))⟩)] [⟨(some 32),(some (27,false)),(.bin .num .neq (.t 30) (.t 31))⟩,pk 33 (.t 27) (kb true) (.t 32)]) (.trim [4,6,33] (.cond (.t 33) (.seq (.ops [oo 34 (.build [(.int .i64 0),(.int .i64 0),(.int .i64 0),(.int .i64 0)] []),⟨none,none,(.store 4 (.t 4) (.t 34))⟩,mk 5 (kb false)]) (.keep (kp [(4,0),(5,0)] [(0,0)] 0) .ret)) .skip))) (.trim [4,6] (.seq (.ops [ln 35 4 6,⟨none,none,(.store 4 (.t 4) (.t 35))⟩,mk 5 (kb true)]) (.keep (kp [(4,0),(5,0)] [(0,0)] 0) .ret)))))),[.cell 4 (some 4),.t 5]⟩
abbrev g104_S:=Sys.on [(107,g103_r),(138,g54_r)] []
def spec_l10Slot (a_d:K0) (a_k:Int):Option ((Int × Int × Int × Int) × Bool):=(spec_l09Read a_d a_k).bind fun r1=>(spec_DecodeSuper r1).bind fun r2=>if ¬(r2.2 = true) then some ((0,0,0,0),false) else if ¬(r2.1.1 = (a_d.1.length:Int)) then some ((0,0,0,0),false) else if ¬((Int.tmod r2.1.2.2.2 2) = a_k) then some ((0,0,0,0),false) else some (r2.1,true)
@[simp] def g104_O:((Int × Int × Int × Int) × Bool) → TV × List Blk:=fun r=>((.tup [(.agg [(.int .i64 r.1.1),(.int .i64 r.1.2.1),(.int .i64 r.1.2.2.1),(.int .i64 r.1.2.2.2)]),(.bool r.2)]),[(.live 4 [[(.int .i64 r.1.1),(.int .i64 r.1.2.1),(.int .i64 r.1.2.2.1),(.int .i64 r.1.2.2.2)]])])
def g104_E (a:K0 × Int × List TV):List TV:=[(.vp ((.vs (rows a.1.1))::(.vs (rows a.1.2.1))::(.int .i64 a.1.2.2.1)::(.bool a.1.2.2.2)::a.2.2)),(.int .i64 a.2.1)]
theorem g104_run (a_d:K0) (a_k:Int) (q0:List TV):callFn (X g104_S) g104_tf (g104_E (a_d,a_k,q0)) [] = (spec_l10Slot a_d a_k).map g104_O:=by
  rw [callFn_eq]
  simp (maxSteps:=2000000) (maxDischargeDepth:=8) -implicitDefEqProofs [g104_tf,spec_l10Slot,g104_E] <;> (try simp only [map_to_bind,some_elim,g104_O])
def g104_r:Rule:=RlO g104_E (fun a=>spec_l10Slot a.1 a.2.1) g104_O
theorem g104_ok:RuleOk Tryz.prog 122 g104_r:=ok_rlo (S:=g104_S) (tf:=g104_tf) (SysOk.on ⟨g103_ok,g54_ok,trivial⟩ trivial) (trE_ok (ks:=[[17]]) Tryz.func122 (by kernel_rfl)) fun a=>g104_run a.1 a.2.1 a.2.2
@[simp] theorem g104_app (y0 y1 y2 y3 y4)(q0:List TV):g104_r [(.vp ((.vs (rows y0))::(.vs (rows y1))::(.int .i64 y2)::(.bool y3)::q0)),(.int .i64 y4)] = (spec_l10Slot ((y0,y1,y2,y3)) y4).map g104_O :=
  RlO_app (enc:=g104_E) (by intro a b h; simp [g104_E,Prod.ext_iff] at h ⊢; simp [h]) ((y0,y1,y2,y3),y4,q0)
/-! spec.l10Choose -/
def g79p1_c:TC:=(sq [mo 33 7,mo 32 33] [2,6,32] (.cond (.t 32) (.seq (.ops [ln 34 4 6,⟨none,none,(.store 4 (.t 2) (.t 34))⟩,mk 3 (ki 0)]) (.keep (kp [(2,0),(3,0)] [(0,0)] 0) .ret)) (.keep (kp [(2,0)] [(0,0)] 0) .skip)))
def g79_tf:TFn:=⟨(sq [oo 2 (.alloc [(.int .i64 0),(.int .i64 0),(.int .i64 0),(.int .i64 0)]),mk 3 (ki 0)] [0,2] (sq [mo 9 0,ca 10 122 [.t 9,ki 0],mo 8 10,oo 11 (.ext (.t 8) 0),oo 12 (.ext (.t 8) 1),oo 4 (.alloc [(.int .i64 0),(.int .i64 0),(.int .i64 0),(.int .i64 0)]),⟨none,none,(.store 4 (.t 4) (.t 11))⟩,mo 5 12] [0,2,4,5] (sq [mo 14 0,ca 15 122 [.t 14,ki 1],mo 13 15,oo 16 (.ext (.t 13) 0),oo 17 (.ext (.t 13) 1),oo 6 (.alloc [(.int .i64 0),(.int .i64 0),(.int .i64 0),(.int .i64 0)]),⟨none,none,(.store 4 (.t 6) (.t 16))⟩,mo 7 17] [2,4,5,6,7] (.seq (.block 0 (sq [mo 19 5,mo 20 19,⟨(some 21),(some (20,true)),(.mv (.t 7))⟩,⟨(some 22),(some (20,true)),(.un .not (.t 21))⟩,⟨(some 23),(some (20,true)),(.mv (.t 22))⟩,⟨(some 24),(some (23,false)),(.faddr 3 (.t 4))⟩,⟨(some 25),(some (23,false)),(.load none (.t 24))⟩,⟨(some 26),(some (23,false)),(.faddr 3 (.t 6))⟩,⟨(some 27),(some (23,false)),(.load none (.t 26))⟩,⟨(some 28),(some (23,false)),(.bin .num .gtr (.t 25) (.t 27))⟩,⟨(some 29),(some (20,true)),(.pick (.t 23) (kb true) (.t 28))⟩,pk 30 (.t 20) (.t 29) (kb false),mo 18 30] [2,4,6,7,18] (.cond (.t 18) (.seq (.ops [ln 31 4 4,⟨none,none,(.store 4 (.t 2) (.t 31))⟩,mk 3 (ki 0)]) (.keep (kp [(2,0),(3,0)] [(0,0)] 0) .ret)) (.keep (kp [(2,0),(6,0),(7,0)] [(0,0),(4,0)] 0) g79p1_c)))) (.trim [2] (.seq (.ops [oo 35 (.build [(.int .i64 0),(.int .i64 0),(.int .i64 0),(.int .i64 0)] []),⟨none,none,(.store 4 (.t 2) (.t 35))⟩,mk 3 (ki 10)]) (.keep (kp [(2,0),(3,0)] [(0,0)] 0) .ret))))))),[.cell 2 (some 4),.t 3]⟩
abbrev g79_S:=Sys.on [(122,g104_r)] []
@[reducible,simp] def g79p1_F:(((Int × Int × Int × Int) × Int) ⊕ ((Int × Int × Int × Int))) → Out:=(Sum.elim (fun t=>(.ret,[(2,(.ptr 0 0 0)),(3,(.int .i64 t.2))],[(.live 4 [[(.int .i64 t.1.1),(.int .i64 t.1.2.1),(.int .i64 t.1.2.2.1),(.int .i64 t.1.2.2.2)]])])) (fun t=>(.nrm,[(2,(.ptr 0 0 0))],[(.live 4 [[(.int .i64 t.1),(.int .i64 t.2.1),(.int .i64 t.2.2.1),(.int .i64 t.2.2.2)]])])))
def spec_l10Choose_p1 (v3:Int × Int × Int × Int) (v4:Int × Int × Int × Int) (v5:Bool):Option (((Int × Int × Int × Int) × Int) ⊕ ((Int × Int × Int × Int))):=if v5 = true then some ((.inl (v4,0))) else some ((.inr v3))
@[simp] theorem g79p1_eq (y0 y1 y2 y3 y4 y5 y6 y7 y8):X g79_S g79p1_c [(2,(.ptr 0 0 0)),(6,(.ptr 1 0 0)),(7,(.bool y8))] [(.live 4 [[(.int .i64 y0),(.int .i64 y1),(.int .i64 y2),(.int .i64 y3)]]),(.live 4 [[(.int .i64 y4),(.int .i64 y5),(.int .i64 y6),(.int .i64 y7)]])] = (spec_l10Choose_p1 ((y0,y1,y2,y3)) ((y4,y5,y6,y7)) y8).map g79p1_F:=by
  simp (maxSteps:=2000000) (maxDischargeDepth:=8) -implicitDefEqProofs [g79p1_c,spec_l10Choose_p1] <;> (try simp only [map_to_bind,some_elim,g79p1_F])
def spec_l10Choose (a_d:K0):Option ((Int × Int × Int × Int) × Int):=(spec_l10Slot a_d 0).bind fun r1=>(spec_l10Slot a_d 1).bind fun r2=>if r1.2 = true then if ¬(r2.2 = true) then some (r1.1,0) else if r1.1.2.2.2 > r2.1.2.2.2 then some (r1.1,0) else (spec_l10Choose_p1 ((0,0,0,0)) r2.1 r2.2).bind fun r6=>Sum.elim (fun u7=>some (u7.1,u7.2)) (fun u8=>some ((0,0,0,0),10)) r6 else (spec_l10Choose_p1 ((0,0,0,0)) r2.1 r2.2).bind fun r9=>Sum.elim (fun u10=>some (u10.1,u10.2)) (fun u11=>some ((0,0,0,0),10)) r9
@[simp] def g79_O:((Int × Int × Int × Int) × Int) → TV × List Blk:=fun r=>((.tup [(.agg [(.int .i64 r.1.1),(.int .i64 r.1.2.1),(.int .i64 r.1.2.2.1),(.int .i64 r.1.2.2.2)]),(.int .i64 r.2)]),[(.live 4 [[(.int .i64 r.1.1),(.int .i64 r.1.2.1),(.int .i64 r.1.2.2.1),(.int .i64 r.1.2.2.2)]])])
def g79_E (a:K0 × List TV):List TV:=[(.vp ((.vs (rows a.1.1))::(.vs (rows a.1.2.1))::(.int .i64 a.1.2.2.1)::(.bool a.1.2.2.2)::a.2))]
theorem g79_run (a_d:K0) (q0:List TV):callFn (X g79_S) g79_tf (g79_E (a_d,q0)) [] = (spec_l10Choose a_d).map g79_O:=by
  rw [callFn_eq]
  simp (maxSteps:=2000000) (maxDischargeDepth:=8) -implicitDefEqProofs [g79_tf,spec_l10Choose,g79_E] <;> (try simp only [map_to_bind,some_elim,g79_O])
def g79_r:Rule:=RlO g79_E (fun a=>spec_l10Choose a.1) g79_O
theorem g79_ok:RuleOk Tryz.prog 99 g79_r:=ok_rlo (S:=g79_S) (tf:=g79_tf) (SysOk.on ⟨g104_ok,trivial⟩ trivial) (trE_ok (ks:=[]) Tryz.func99 (by kernel_rfl)) fun a=>g79_run a.1 a.2
@[simp] theorem g79_app (y0 y1 y2 y3)(q0:List TV):g79_r [(.vp ((.vs (rows y0))::(.vs (rows y1))::(.int .i64 y2)::(.bool y3)::q0))] = (spec_l10Choose ((y0,y1,y2,y3))).map g79_O :=
  RlO_app (enc:=g79_E) (by intro a b h; simp [g79_E,Prod.ext_iff] at h ⊢; simp [h]) ((y0,y1,y2,y3),q0)
/-! spec.l11Log -/
def g115l1_cb:TC:=(.seq (sq [mo 8 6,fa 9 1 3,ld 10 9,bn 11 .lss (.t 8) (.t 10)] [0,3,5,6,11] (.cond (.t 11) .skip (.keep (kp [(5,1)] [(1,1)] 0) (.exit 0)))) (.trim [0,3,5,6] (.seq (.block 1 (.ops [mo 14 5,mo 15 0,mo 16 6,bn 17 .add (ki 2) (.t 16),ca 18 107 [.t 15,.t 17],oo 19 (.bslice [(.str [])] 1 [(0,(.t 18))]),oo 20 (.append 9 1 16 (.t 14) (.t 19)),mo 5 20])) (.trim [0,3,5,6] (.after (.ops [mo 12 6,bn 13 .add (.t 12) (ki 1),mo 6 13]) (kp [(0,0),(3,0),(5,1),(6,0)] [(0,0),(3,1)] 0))))))
def g115l1_c:TC:=.loop [0,3,5,6] g115l1_cb
def g115_tf:TFn:=⟨(sq [bx 3 1,mk 4 (.c .nils)] [0,3] (sq [oo 7 (.bslice [(.str [])] 0 []),mo 5 7] [0,3,5] (.seq (sq [mk 6 (ki 0)] [0,3,5,6] (.block 0 (.keep (kp [(0,0),(3,0),(5,1),(6,0)] [(0,0),(1000,1)] 0) g115l1_c))) (.trim [5] (.seq (.ops [mo 21 5,mo 4 21,⟨(some 4),none,(.frz [0] (.t 4))⟩]) (.keep (kp [(4,0)] [] 0) .ret)))))),[.t 4]⟩
abbrev g115_S:=Sys.on [(107,g103_r)] []
@[reducible,simp] def g115l1_F:(List Str) → Out:=(fun t=>(.ext 0,[(5,(ow 0 t.length))],[(ob 1 t)]))
def spec_l11Log_l1_b (v1:K0) (v2:Int × Int × Int × Int) (v3:List Str) (v4:Int):Option ((List Str × Int) ⊕ (List Str)):=if v4 < v2.2.1 then (spec_l09Read v1 ((IntKind.i64.wrap (2 + v4)))).bind fun r5=>(appL 16 v3 ((lit [r5]:List Str))).bind fun l6=>some (.inl (l6,(IntKind.i64.wrap (v4 + 1)))) else some (.inr v3)
theorem g115l1_b_eq (q0:List TV) (v1:K0) (v2:Int × Int × Int × Int) (v3:List Str) (v4:Int):X g115_S g115l1_cb (keepEnv [0,3,5,6] [(0,(.vp ((.vs (rows v1.1))::(.vs (rows v1.2.1))::(.int .i64 v1.2.2.1)::(.bool v1.2.2.2)::q0))),(3,(.ptr 0 0 0)),(5,(ow 1 v3.length)),(6,(.int .i64 v4))]) [(.live 4 [[(.int .i64 v2.1),(.int .i64 v2.2.1),(.int .i64 v2.2.2.1),(.int .i64 v2.2.2.2)]]),(ob 1 v3)] = (spec_l11Log_l1_b v1 v2 v3 v4).map (Sum.elim (fun s=>(TX.nrm,[(0,(.vp ((.vs (rows v1.1))::(.vs (rows v1.2.1))::(.int .i64 v1.2.2.1)::(.bool v1.2.2.2)::q0))),(3,(.ptr 0 0 0)),(5,(ow 1 s.1.length)),(6,(.int .i64 s.2))],[(.live 4 [[(.int .i64 v2.1),(.int .i64 v2.2.1),(.int .i64 v2.2.2.1),(.int .i64 v2.2.2.2)]]),(ob 1 s.1)])) g115l1_F):=by
  simp (maxSteps:=2000000) (maxDischargeDepth:=8) -implicitDefEqProofs [g115l1_cb,spec_l11Log_l1_b,bslV_lit (α:=Str) (zs:=[(.str [])])] <;> (try simp only [map_to_bind,some_elim,g115l1_F])
def spec_l11Log_l1 (v1:K0) (v2:Int × Int × Int × Int) (s:List Str × Int):Option (List Str):=loopO (fun s=>spec_l11Log_l1_b v1 v2 s.1 s.2) s
@[simp] theorem g115l1_eq (q0:List TV)(y0 y1 y2 y3 y4 y5 y6 y7)(y8:List Str)(y9){n1:Nat}(h1:n1 = y8.length):X g115_S g115l1_c [(0,(.vp ((.vs (rows y0))::(.vs (rows y1))::(.int .i64 y2)::(.bool y3)::q0))),(3,(.ptr 0 0 0)),(5,(ow 1 n1)),(6,(.int .i64 y9))] [(.live 4 [[(.int .i64 y4),(.int .i64 y5),(.int .i64 y6),(.int .i64 y7)]]),(ob 1 y8)] = (spec_l11Log_l1 ((y0,y1,y2,y3)) ((y4,y5,y6,y7)) (y8,y9)).map g115l1_F:=by
  subst h1
  exact loop_X _ _ _ _ (by intro r; first | (simp; done) | (rcases r with r | r <;> simp; done) | (rcases r with r | r | r <;> simp; done) | (rcases r with r | r | r | r <;> simp)) (fun s=>g115l1_b_eq q0 ((y0,y1,y2,y3)) ((y4,y5,y6,y7)) s.1 s.2) (y8,y9)
@[simp] theorem g115l1_eq_2 (q0:List TV)(y0 y1 y2 y3 y4 y5 y6 y7 y8):X g115_S g115l1_c [(0,(.vp ((.vs (rows y0))::(.vs (rows y1))::(.int .i64 y2)::(.bool y3)::q0))),(3,(.ptr 0 0 0)),(5,.es),(6,(.int .i64 y8))] [(.live 4 [[(.int .i64 y4),(.int .i64 y5),(.int .i64 y6),(.int .i64 y7)]]),.dead] = (spec_l11Log_l1 ((y0,y1,y2,y3)) ((y4,y5,y6,y7)) (([]:List Str),y8)).map g115l1_F :=
  g115l1_eq q0 y0 y1 y2 y3 y4 y5 y6 y7 ([]:List Str) y8 rfl
def spec_l11Log (a_d:K0) (a_s:Int × Int × Int × Int):Option (List Str):=(spec_l11Log_l1 a_d a_s ((([]:List Str),0))).bind fun r7=>some r7
@[simp] def g115_O:List Str → TV × List Blk:=fun r=>((.vs (rows r)),[])
def g115_E (a:K0 × (Int × Int × Int × Int) × List TV):List TV:=[(.vp ((.vs (rows a.1.1))::(.vs (rows a.1.2.1))::(.int .i64 a.1.2.2.1)::(.bool a.1.2.2.2)::a.2.2)),(.agg [(.int .i64 a.2.1.1),(.int .i64 a.2.1.2.1),(.int .i64 a.2.1.2.2.1),(.int .i64 a.2.1.2.2.2)])]
theorem g115_run (a_d:K0) (a_s:Int × Int × Int × Int) (q0:List TV):callFn (X g115_S) g115_tf (g115_E (a_d,a_s,q0)) [] = (spec_l11Log a_d a_s).map g115_O:=by
  rw [callFn_eq]
  simp (maxSteps:=2000000) (maxDischargeDepth:=8) -implicitDefEqProofs [g115_tf,spec_l11Log,g115_E,bslV_lit (α:=Str) (zs:=[(.str [])])] <;> (try simp only [map_to_bind,some_elim,g115_O])
def g115_r:Rule:=RlO g115_E (fun a=>spec_l11Log a.1 a.2.1) g115_O
theorem g115_ok:RuleOk Tryz.prog 123 g115_r:=ok_rlo (S:=g115_S) (tf:=g115_tf) (SysOk.on ⟨g103_ok,trivial⟩ trivial) (trE_ok (ks:=[[0,3,5,6]]) Tryz.func123 (by kernel_rfl)) fun a=>g115_run a.1 a.2.1 a.2.2
@[simp] theorem g115_app (y0 y1 y2 y3 y4 y5 y6 y7)(q0:List TV):g115_r [(.vp ((.vs (rows y0))::(.vs (rows y1))::(.int .i64 y2)::(.bool y3)::q0)),(.agg [(.int .i64 y4),(.int .i64 y5),(.int .i64 y6),(.int .i64 y7)])] = (spec_l11Log ((y0,y1,y2,y3)) ((y4,y5,y6,y7))).map g115_O :=
  RlO_app (enc:=g115_E) (by intro a b h; simp [g115_E,Prod.ext_iff] at h ⊢; simp [h]) ((y0,y1,y2,y3),(y4,y5,y6,y7),q0)
/-! spec.l11Number -/
def g80_tf:TFn:=⟨(sq [mk 2 (ki 0),mk 3 (ki 0),mk 4 (kb false)] [0] (.seq (sq [mo 10 0,oo 11 (.len true (.t 10)),bn 12 .neq (.t 11) (ki 64),mo 13 12,⟨(some 14),(some (13,false)),(.mv (.t 0))⟩,⟨(some 15),(some (13,false)),(.sliceS (.t 14) none (some (ki 4)))⟩,⟨(some 16),(some (13,false)),(.bin .str .neq (.t 15) (.c (.str [76,79,71,82])))⟩,pk 17 (.t 13) (kb true) (.t 16),mo 18 17,⟨(some 19),(some (18,false)),(.mv (.t 0))⟩,⟨(some 20),(some (18,false)),(.index (.t 19) (ki 63))⟩,⟨(some 21),(some (18,false)),(.bin .num .neq (.t 20) (.c (.int .u8 90)))⟩,pk 22 (.t 18) (kb true) (.t 21)] [22] (.cond (.t 22) (.seq (.ops [mk 2 (ki 0),mk 3 (ki 0),mk 4 (kb false)]) (.keep (kp [(2,0),(3,0),(4,0)] [] 0) .ret)) .skip)) (.trim [] .bad))),[.t 2,.t 3,.t 4]⟩
abbrev g80_S:=Sys.on [] []
def spec_l11Number (a_head:Str):Option (Int × Int × Bool):=if ¬((a_head.length:Int) = 64) then some (0,0,false) else (subL a_head none (some 4)).bind fun s1=>if ¬(s1 = ([76,79,71,82]:Str)) then some (0,0,false) else if 0 ≤ (63:Int) then (a_head[((63:Int)).toNat]?).bind fun (b2:UInt8)=>if ¬((b2.toNat:Int) = 90) then some (0,0,false) else none else none
@[simp] def g80_O:(Int × Int × Bool) → TV × List Blk:=fun r=>((.tup [(.int .i64 r.1),(.int .i64 r.2.1),(.bool r.2.2)]),[])
def g80_E (a:Str):List TV:=[(.str a)]
theorem g80_run (a_head:Str) :callFn (X g80_S) g80_tf (g80_E a_head) [] = (spec_l11Number a_head).map g80_O:=by
  rw [callFn_eq]
  simp (maxSteps:=2000000) (maxDischargeDepth:=8) -implicitDefEqProofs [g80_tf,spec_l11Number,g80_E] <;> (try simp only [map_to_bind,some_elim,g80_O])
def g80_r:Rule:=RlO g80_E (fun a=>spec_l11Number a) g80_O
theorem g80_ok:RuleOk Tryz.prog 139 g80_r:=ok_rlo (S:=g80_S) (tf:=g80_tf) (SysOk.on trivial trivial) (trE_ok (ks:=[[2000002,3]]) Tryz.func139 (by kernel_rfl)) fun a=>g80_run a
@[simp] theorem g80_app (y0):g80_r [(.str y0)] = (spec_l11Number y0).map g80_O :=
  RlO_app (enc:=g80_E) (by intro a b h; simp [g80_E,Prod.ext_iff] at h ⊢; simp [h]) y0
/-! spec.l11Table -/
def g91_tf:TFn:=⟨(sq [mk 2 (ki 0)] [0] (.seq (.ops [mo 3 0,bn 4 .mul (ki 2) (.t 3),bn 5 .add (.t 4) (ki 64),bn 6 .sub (.t 5) (ki 1),bn 7 .quo (.t 6) (ki 64),mo 2 7]) (.keep (kp [(2,0)] [] 0) .ret))),[.t 2]⟩
abbrev g91_S:=Sys.on [] []
def spec_l11Table (a_pages:Int):Option (Int):=some ((IntKind.i64.wrap (Int.tdiv ((IntKind.i64.wrap ((IntKind.i64.wrap ((IntKind.i64.wrap (2 * a_pages)) + 64)) - 1))) 64)))
@[simp] def g91_O:Int → TV × List Blk:=fun r=>((.int .i64 r),[])
def g91_E (a:Int):List TV:=[(.int .i64 a)]
theorem g91_run (a_pages:Int) :callFn (X g91_S) g91_tf (g91_E a_pages) [] = (spec_l11Table a_pages).map g91_O:=by
  rw [callFn_eq]
  simp (maxSteps:=2000000) (maxDischargeDepth:=8) -implicitDefEqProofs [g91_tf,spec_l11Table,g91_E] <;> (try simp only [map_to_bind,some_elim,g91_O])
def g91_r:Rule:=RlO g91_E (fun a=>spec_l11Table a) g91_O
theorem g91_ok:RuleOk Tryz.prog 98 g91_r:=ok_rlo (S:=g91_S) (tf:=g91_tf) (SysOk.on trivial trivial) (trE_ok (ks:=[]) Tryz.func98 (by kernel_rfl)) fun a=>g91_run a
@[simp] theorem g91_app (y0):g91_r [(.int .i64 y0)] = (spec_l11Table y0).map g91_O :=
  RlO_app (enc:=g91_E) (by intro a b h; simp [g91_E,Prod.ext_iff] at h ⊢; simp [h]) y0
/-! spec.l11Blocks -/
def g81_tf:TFn:=⟨(sq [mk 2 (ki 0)] [0] (.seq (.ops [mo 3 0,ca 4 98 [.t 3],bn 5 .add (ki 1) (.t 4),mo 6 0,bn 7 .add (.t 5) (.t 6),mo 2 7]) (.keep (kp [(2,0)] [] 0) .ret))),[.t 2]⟩
abbrev g81_S:=Sys.on [(98,g91_r)] []
def spec_l11Blocks (a_pages:Int):Option (Int):=(spec_l11Table a_pages).bind fun r1=>some ((IntKind.i64.wrap ((IntKind.i64.wrap (1 + r1)) + a_pages)))
@[simp] def g81_O:Int → TV × List Blk:=fun r=>((.int .i64 r),[])
def g81_E (a:Int):List TV:=[(.int .i64 a)]
theorem g81_run (a_pages:Int) :callFn (X g81_S) g81_tf (g81_E a_pages) [] = (spec_l11Blocks a_pages).map g81_O:=by
  rw [callFn_eq]
  simp (maxSteps:=2000000) (maxDischargeDepth:=8) -implicitDefEqProofs [g81_tf,spec_l11Blocks,g81_E] <;> (try simp only [map_to_bind,some_elim,g81_O])
def g81_r:Rule:=RlO g81_E (fun a=>spec_l11Blocks a) g81_O
theorem g81_ok:RuleOk Tryz.prog 73 g81_r:=ok_rlo (S:=g81_S) (tf:=g81_tf) (SysOk.on ⟨g91_ok,trivial⟩ trivial) (trE_ok (ks:=[]) Tryz.func73 (by kernel_rfl)) fun a=>g81_run a
@[simp] theorem g81_app (y0):g81_r [(.int .i64 y0)] = (spec_l11Blocks y0).map g81_O :=
  RlO_app (enc:=g81_E) (by intro a b h; simp [g81_E,Prod.ext_iff] at h ⊢; simp [h]) y0
/-! spec.l11Decode -/
def g82_tf:TFn:=⟨(sq [oo 2 (.alloc [(.int .i64 0),.nils]),mk 3 (ki 0)] [0,2] (.seq (sq [mo 15 0,le 16 15,bn 17 .eql (.t 16) (ki 0)] [0,2,17] (.cond (.t 17) (.seq (.ops [oo 18 (.build [(.int .i64 0),.nils] []),⟨none,none,(.store 2 (.t 2) (.t 18))⟩,mk 3 (ki 10)]) (.keep (kp [(2,0),(3,0)] [(0,2)] 0) .ret)) .skip)) (.trim [0,2] (sq [mo 20 0,oo 21 (.iaddr 1 (.t 20) (ki 0)),ld 22 21,ca 23 139 [.t 22],mo 19 23,oo 24 (.ext (.t 19) 0),oo 25 (.ext (.t 19) 1),oo 26 (.ext (.t 19) 2),mo 4 24,mo 5 25,mo 6 26] [0,2,5,6] (.seq (sq [mo 27 6,nt 28 27,mo 29 28,⟨(some 30),(some (29,false)),(.mv (.t 0))⟩,⟨(some 31),(some (29,false)),(.len false (.t 30))⟩,⟨(some 32),(some (29,false)),(.mv (.t 5))⟩,⟨(some 33),(some (29,false)),(.call 73 [.t 32])⟩,⟨(some 34),(some (29,false)),(.bin .num .lss (.t 31) (.t 33))⟩,pk 35 (.t 29) (kb true) (.t 34)] [2,35] (.cond (.t 35) (.seq (.ops [oo 36 (.build [(.int .i64 0),.nils] []),⟨none,none,(.store 2 (.t 2) (.t 36))⟩,mk 3 (ki 10)]) (.keep (kp [(2,0),(3,0)] [(0,2)] 0) .ret)) .skip)) (.trim [] .bad)))))),[.cell 2 (some 2),.t 3]⟩
abbrev g82_S:=Sys.on [(139,g80_r),(73,g81_r)] []
def spec_l11Decode (a_blocks:List Str):Option (Int × Int):=if (a_blocks.length:Int) = 0 then some (0,10) else if 0 ≤ (0:Int) then (a_blocks[((0:Int)).toNat]?).bind fun x1=>(spec_l11Number x1).bind fun r2=>if ¬(r2.2.2 = true) then some (0,10) else (spec_l11Blocks r2.2.1).bind fun r3=>if (a_blocks.length:Int) < r3 then some (0,10) else none else none
@[simp] def g82_O:(Int × Int) → TV × List Blk:=fun r=>((.tup [(.agg [(.int .i64 r.1),.es]),(.int .i64 r.2)]),[(.live 2 [[(.int .i64 r.1),.es]])])
def g82_E (a:List Str):List TV:=[(.vs (rows a))]
theorem g82_run (a_blocks:List Str) :callFn (X g82_S) g82_tf (g82_E a_blocks) [] = (spec_l11Decode a_blocks).map g82_O:=by
  rw [callFn_eq]
  simp (maxSteps:=2000000) (maxDischargeDepth:=8) -implicitDefEqProofs [g82_tf,spec_l11Decode,g82_E] <;> (try simp only [map_to_bind,some_elim,g82_O])
def g82_r:Rule:=RlO g82_E (fun a=>spec_l11Decode a) g82_O
theorem g82_ok:RuleOk Tryz.prog 124 g82_r:=ok_rlo (S:=g82_S) (tf:=g82_tf) (SysOk.on ⟨g80_ok,g81_ok,trivial⟩ trivial) (trE_ok (ks:=[[2000002,7]]) Tryz.func124 (by kernel_rfl)) fun a=>g82_run a
@[simp] theorem g82_app (y0):g82_r [(.vs (rows y0))] = (spec_l11Decode y0).map g82_O :=
  RlO_app (enc:=g82_E) (by intro a b h; simp [g82_E,Prod.ext_iff] at h ⊢; simp [h]) y0
/-! spec.l10Area -/
def g105_tf:TFn:=⟨(sq [bx 1 0,mk 2 (ki 0)] [1] (.seq (.ops [fa 3 1 1,ld 4 3,bn 5 .add (ki 2) (.t 4),mo 2 5]) (.keep (kp [(2,0)] [] 0) .ret))),[.t 2]⟩
abbrev g105_S:=Sys.on [] []
def spec_l10Area (a_s:Int × Int × Int × Int):Option (Int):=some ((IntKind.i64.wrap (2 + a_s.2.1)))
@[simp] def g105_O:Int → TV × List Blk:=fun r=>((.int .i64 r),[])
def g105_E (a:(Int × Int × Int × Int)):List TV:=[(.agg [(.int .i64 a.1),(.int .i64 a.2.1),(.int .i64 a.2.2.1),(.int .i64 a.2.2.2)])]
theorem g105_run (a_s:Int × Int × Int × Int) :callFn (X g105_S) g105_tf (g105_E a_s) [] = (spec_l10Area a_s).map g105_O:=by
  rw [callFn_eq]
  simp (maxSteps:=2000000) (maxDischargeDepth:=8) -implicitDefEqProofs [g105_tf,spec_l10Area,g105_E] <;> (try simp only [map_to_bind,some_elim,g105_O])
def g105_r:Rule:=RlO g105_E (fun a=>spec_l10Area a) g105_O
theorem g105_ok:RuleOk Tryz.prog 50 g105_r:=ok_rlo (S:=g105_S) (tf:=g105_tf) (SysOk.on trivial trivial) (trE_ok (ks:=[]) Tryz.func50 (by kernel_rfl)) fun a=>g105_run a
@[simp] theorem g105_app (y0 y1 y2 y3):g105_r [(.agg [(.int .i64 y0),(.int .i64 y1),(.int .i64 y2),(.int .i64 y3)])] = (spec_l10Area ((y0,y1,y2,y3))).map g105_O :=
  RlO_app (enc:=g105_E) (by intro a b h; simp [g105_E,Prod.ext_iff] at h ⊢; simp [h]) ((y0,y1,y2,y3))
/-! spec.l11Within -/
def g83l1_cb:TC:=(.seq (sq [mo 6 5,mo 7 1,le 8 7,bn 9 .lss (.t 6) (.t 8)] [1,2,5,9] (.cond (.t 9) .skip (.keep (kp [] [] 0) (.exit 0)))) (.trim [1,2,5] (.seq (.block 1 (.seq (.draw [([],mo 12 1),([],mo 13 5),([0,1],ia 14 2 12 13),([0,1,2],fa 15 0 14),([0,1,2,3],ld 16 15),([],ln 17 4 2),([5],ca 18 50 [.t 17]),([],fa 19 0 2),([7],ld 20 19),([7,8],bn 21 .sub (.t 20) (ki 1))] [ca 22 44 [.t 16,.t 18,.t 21],nt 23 22]) (.trim [1,2,5,23] (.cond (.t 23) (.seq (.ops [mk 4 (kb false)]) (.keep (kp [(4,0)] [] 0) .ret)) .skip)))) (.trim [1,2,5] (.after (.ops [mo 10 5,bn 11 .add (.t 10) (ki 1),mo 5 11]) (kp [(1,0),(2,0),(5,0)] [(0,0)] 0))))))
def g83l1_c:TC:=.loop [1,2,5] g83l1_cb
def g83_tf:TFn:=⟨(sq [bx 2 0,mk 4 (kb false)] [1,2] (.seq (sq [mk 5 (ki 0)] [1,2,5] (.block 0 (.keep (kp [(1,0),(2,0),(5,0)] [(0,0)] 0) g83l1_c))) (.trim [] (.seq (.ops [mk 4 (kb true)]) (.keep (kp [(4,0)] [] 0) .ret))))),[.t 4]⟩
abbrev g83_S:=Sys.on [(50,g105_r),(44,g121_r)] []
@[reducible,simp] def g83l1_F:((Unit) ⊕ (Bool)) → Out:=(Sum.elim (fun t=>(.ext 0,[],[])) (fun t=>(.ret,[(4,(.bool t))],[])))
def spec_l11Within_l1_b (v1:List (Int × Str)) (v2:Int × Int × Int × Int) (v3:Int):Option ((Int) ⊕ ((Unit) ⊕ (Bool))):=if v3 < (v1.length:Int) then if 0 ≤ v3 then (v1[(v3).toNat]?).bind fun x4=>(spec_l10Area v2).bind fun r5=>(spec_l00In x4.1 r5 ((IntKind.i64.wrap (v2.1 - 1)))).bind fun r6=>if ¬(r6 = true) then some (.inr (.inr false)) else some (.inl ((IntKind.i64.wrap (v3 + 1)))) else none else some (.inr (.inl ()))
theorem g83l1_b_eq  (v1:List (Int × Str)) (v2:Int × Int × Int × Int) (v3:Int):X g83_S g83l1_cb (keepEnv [1,2,5] [(1,(.vs (rows v1))),(2,(.ptr 0 0 0)),(5,(.int .i64 v3))]) [(.live 4 [[(.int .i64 v2.1),(.int .i64 v2.2.1),(.int .i64 v2.2.2.1),(.int .i64 v2.2.2.2)]])] = (spec_l11Within_l1_b v1 v2 v3).map (Sum.elim (fun s=>(TX.nrm,[(1,(.vs (rows v1))),(2,(.ptr 0 0 0)),(5,(.int .i64 s))],[(.live 4 [[(.int .i64 v2.1),(.int .i64 v2.2.1),(.int .i64 v2.2.2.1),(.int .i64 v2.2.2.2)]])])) g83l1_F):=by
  simp (maxSteps:=2000000) (maxDischargeDepth:=8) -implicitDefEqProofs [g83l1_cb,spec_l11Within_l1_b] <;> (try simp only [map_to_bind,some_elim,g83l1_F])
def spec_l11Within_l1 (v1:List (Int × Str)) (v2:Int × Int × Int × Int) (s:Int):Option ((Unit) ⊕ (Bool)):=loopO (fun s=>spec_l11Within_l1_b v1 v2 s) s
@[simp] theorem g83l1_eq (y0 y1 y2 y3 y4 y5):X g83_S g83l1_c [(1,(.vs (rows y0))),(2,(.ptr 0 0 0)),(5,(.int .i64 y5))] [(.live 4 [[(.int .i64 y1),(.int .i64 y2),(.int .i64 y3),(.int .i64 y4)]])] = (spec_l11Within_l1 y0 ((y1,y2,y3,y4)) y5).map g83l1_F:=by
  exact loop_X _ _ _ _ (by intro r; first | (simp; done) | (rcases r with r | r <;> simp; done) | (rcases r with r | r | r <;> simp; done) | (rcases r with r | r | r | r <;> simp)) (fun s=>g83l1_b_eq  y0 ((y1,y2,y3,y4)) s) y5
def spec_l11Within (a_s:Int × Int × Int × Int) (a_list:List (Int × Str)):Option (Bool):=(spec_l11Within_l1 a_list a_s 0).bind fun r7=>Sum.elim (fun u8=>some true) (fun u9=>some u9) r7
@[simp] def g83_O:Bool → TV × List Blk:=fun r=>((.bool r),[])
def g83_E (a:(Int × Int × Int × Int) × (List (Int × Str))):List TV:=[(.agg [(.int .i64 a.1.1),(.int .i64 a.1.2.1),(.int .i64 a.1.2.2.1),(.int .i64 a.1.2.2.2)]),(.vs (rows a.2))]
theorem g83_run (a_s:Int × Int × Int × Int) (a_list:List (Int × Str)) :callFn (X g83_S) g83_tf (g83_E (a_s,a_list)) [] = (spec_l11Within a_s a_list).map g83_O:=by
  rw [callFn_eq]
  simp (maxSteps:=2000000) (maxDischargeDepth:=8) -implicitDefEqProofs [g83_tf,spec_l11Within,g83_E] <;> (try simp only [map_to_bind,some_elim,g83_O])
def g83_r:Rule:=RlO g83_E (fun a=>spec_l11Within a.1 a.2) g83_O
theorem g83_ok:RuleOk Tryz.prog 46 g83_r:=ok_rlo (S:=g83_S) (tf:=g83_tf) (SysOk.on ⟨g105_ok,g121_ok,trivial⟩ trivial) (trE_ok (ks:=[[1,2,5],[10]]) Tryz.func46 (by kernel_rfl)) fun a=>g83_run a.1 a.2
@[simp] theorem g83_app (y0 y1 y2 y3 y4):g83_r [(.agg [(.int .i64 y0),(.int .i64 y1),(.int .i64 y2),(.int .i64 y3)]),(.vs (rows y4))] = (spec_l11Within ((y0,y1,y2,y3)) y4).map g83_O :=
  RlO_app (enc:=g83_E) (by intro a b h; simp [g83_E,Prod.ext_iff] at h ⊢; simp [h]) ((y0,y1,y2,y3),y4)
@[simp] theorem g83_app_a_list (y0 y1 y2 y3):g83_r [(.agg [(.int .i64 y0),(.int .i64 y1),(.int .i64 y2),(.int .i64 y3)]),(.vs [])] = (spec_l11Within ((y0,y1,y2,y3)) (([]:List (Int × Str)))).map g83_O :=
  g83_app y0 y1 y2 y3 ([]:List (Int × Str)) 
/-! spec.l11Scan -/
def g106l1_cb:TC:=(.seq (sq [mo 15 8,fa 16 1 3,ld 17 16,bn 18 .lss (.t 15) (.t 17)] [3,6,7,8,18] (.cond (.t 18) .skip (.keep (kp [(7,1),(8,0)] [] 0) (.exit 0)))) (.trim [3,6,7,8] (.block 1 (sq [mo 20 6,mo 21 8,oo 22 (.slice 1 (.t 20) (some (.t 21)) none none),ca 23 124 [.t 22],mo 19 23,oo 24 (.ext (.t 19) 0),oo 25 (.ext (.t 19) 1),oo 9 (.alloc [(.int .i64 0),.nils]),⟨none,none,(.store 2 (.t 9) (.t 24))⟩,mo 10 25] [3,7,8,9,10] (.seq (sq [mo 26 10,bn 27 .neq (.t 26) (ki 0),mo 28 27,⟨(some 29),(some (28,false)),(.faddr 0 (.t 9))⟩,⟨(some 30),(some (28,false)),(.load none (.t 29))⟩,⟨(some 31),(some (28,false)),(.faddr 2 (.t 3))⟩,⟨(some 32),(some (28,false)),(.load none (.t 31))⟩,⟨(some 33),(some (28,false)),(.mv (.t 7))⟩,⟨(some 34),(some (28,false)),(.len false (.t 33))⟩,⟨(some 35),(some (28,false)),(.bin .num .add (.t 32) (.t 34))⟩,⟨(some 36),(some (28,false)),(.bin .num .add (.t 35) (ki 1))⟩,⟨(some 37),(some (28,false)),(.bin .num .neq (.t 30) (.t 36))⟩,pk 38 (.t 28) (kb true) (.t 37),mo 39 38,⟨(some 40),(some (39,false)),(.load (some 4) (.t 3))⟩,⟨(some 41),(some (39,false)),(.faddr 1 (.t 9))⟩,⟨(some 42),(some (39,false)),(.load none (.t 41))⟩,⟨(some 43),(some (39,false)),(.call 46 [.t 40,.t 42])⟩,⟨(some 44),(some (39,false)),(.un .not (.t 43))⟩,pk 45 (.t 39) (kb true) (.t 44)] [7,8,45] (.cond (.t 45) (.keep (kp [(7,1),(8,0)] [] 0) (.exit 0)) .skip)) (.trim [] .bad))))))
def g106l1_c:TC:=.loop [3,6,7,8] g106l1_cb
def g106_tf:TFn:=⟨(sq [bx 3 1,mk 4 (.c .nils),mk 5 (ki 0)] [0,3] (sq [mo 11 0,ln 12 4 3,ca 13 123 [.t 11,.t 12],mo 6 13] [3,6] (sq [oo 14 (.bslice [(.int .i64 0),.nils] 0 []),mo 7 14] [3,6,7] (sq [mk 8 (ki 0)] [3,6,7,8] (.seq (.block 0 (.keep (kp [(3,0),(6,0),(7,1),(8,0)] [(0,0)] 0) g106l1_c)) (.trim [7,8] (.seq (.ops [mo 56 7,mo 57 8,mo 4 56,mo 5 57]) (.keep (kp [(4,1),(5,0)] [] 0) .ret)))))))),[.t 4,.t 5]⟩
abbrev g106_S:=Sys.on [(123,g115_r),(124,g82_r),(46,g83_r)] []
@[reducible,simp] def g106l1_F:Int → Out:=(fun t=>(.ext 0,[(7,.es),(8,(.int .i64 t))],[]))
def spec_l11Scan_l1_b (v2:Int × Int × Int × Int) (v3:List Str) (v4:Int):Option ((Unit) ⊕ (Int)):=if v4 < v2.2.1 then (subL v3 (some v4) none).bind fun l5=>(spec_l11Decode l5).bind fun r6=>if ¬(r6.2 = 0) then some (.inr v4) else if ¬(r6.1 = (IntKind.i64.wrap ((IntKind.i64.wrap (v2.2.2.1 + 0)) + 1))) then some (.inr v4) else (spec_l11Within v2 (([]:List (Int × Str)))).bind fun r7=>if ¬(r7 = true) then some (.inr v4) else none else some (.inr v4)
theorem g106l1_b_eq  (v2:Int × Int × Int × Int) (v3:List Str) (v4:Int):X g106_S g106l1_cb (keepEnv [3,6,7,8] [(3,(.ptr 0 0 0)),(6,(.vs (rows v3))),(7,.es),(8,(.int .i64 v4))]) [(.live 4 [[(.int .i64 v2.1),(.int .i64 v2.2.1),(.int .i64 v2.2.2.1),(.int .i64 v2.2.2.2)]])] = (spec_l11Scan_l1_b v2 v3 v4).map (Sum.elim (fun s=>(TX.nrm,[(3,(.ptr 0 0 0)),(6,(.vs (rows v3))),(7,.es),(8,(.int .i64 v4))],[(.live 4 [[(.int .i64 v2.1),(.int .i64 v2.2.1),(.int .i64 v2.2.2.1),(.int .i64 v2.2.2.2)]])])) g106l1_F):=by
  simp (maxSteps:=2000000) (maxDischargeDepth:=8) -implicitDefEqProofs [g106l1_cb,spec_l11Scan_l1_b] <;> (try simp only [map_to_bind,some_elim,g106l1_F])
def spec_l11Scan_l1 (v2:Int × Int × Int × Int) (v3:List Str) (v4:Int) (s:Unit):Option (Int):=loopO (fun s=>spec_l11Scan_l1_b v2 v3 v4 ) s
@[simp] theorem g106l1_eq (y0 y1 y2 y3 y4 y5):X g106_S g106l1_c [(3,(.ptr 0 0 0)),(6,(.vs (rows y4))),(7,.es),(8,(.int .i64 y5))] [(.live 4 [[(.int .i64 y0),(.int .i64 y1),(.int .i64 y2),(.int .i64 y3)]])] = (spec_l11Scan_l1 ((y0,y1,y2,y3)) y4 y5 ()).map g106l1_F:=by
  exact loop_X _ _ _ _ (by intro r; first | (simp; done) | (rcases r with r | r <;> simp; done) | (rcases r with r | r | r <;> simp; done) | (rcases r with r | r | r | r <;> simp)) (fun s=>g106l1_b_eq  ((y0,y1,y2,y3)) y4 y5 ) ()
def spec_l11Scan (a_d:K0) (a_s:Int × Int × Int × Int):Option (Int):=(spec_l11Log a_d a_s).bind fun r1=>(spec_l11Scan_l1 a_s r1 0 (())).bind fun r8=>some r8
@[simp] def g106_O:Int → TV × List Blk:=fun r=>((.tup [.es,(.int .i64 r)]),[])
def g106_E (a:K0 × (Int × Int × Int × Int) × List TV):List TV:=[(.vp ((.vs (rows a.1.1))::(.vs (rows a.1.2.1))::(.int .i64 a.1.2.2.1)::(.bool a.1.2.2.2)::a.2.2)),(.agg [(.int .i64 a.2.1.1),(.int .i64 a.2.1.2.1),(.int .i64 a.2.1.2.2.1),(.int .i64 a.2.1.2.2.2)])]
theorem g106_run (a_d:K0) (a_s:Int × Int × Int × Int) (q0:List TV):callFn (X g106_S) g106_tf (g106_E (a_d,a_s,q0)) [] = (spec_l11Scan a_d a_s).map g106_O:=by
  rw [callFn_eq]
  simp (maxSteps:=2000000) (maxDischargeDepth:=8) -implicitDefEqProofs [g106_tf,spec_l11Scan,g106_E] <;> (try simp only [map_to_bind,some_elim,g106_O])
def g106_r:Rule:=RlO g106_E (fun a=>spec_l11Scan a.1 a.2.1) g106_O
theorem g106_ok:RuleOk Tryz.prog 100 g106_r:=ok_rlo (S:=g106_S) (tf:=g106_tf) (SysOk.on ⟨g115_ok,g82_ok,g83_ok,trivial⟩ trivial) (trE_ok (ks:=[[3,6,7,8],[2000002,4]]) Tryz.func100 (by kernel_rfl)) fun a=>g106_run a.1 a.2.1 a.2.2
@[simp] theorem g106_app (y0 y1 y2 y3 y4 y5 y6 y7)(q0:List TV):g106_r [(.vp ((.vs (rows y0))::(.vs (rows y1))::(.int .i64 y2)::(.bool y3)::q0)),(.agg [(.int .i64 y4),(.int .i64 y5),(.int .i64 y6),(.int .i64 y7)])] = (spec_l11Scan ((y0,y1,y2,y3)) ((y4,y5,y6,y7))).map g106_O :=
  RlO_app (enc:=g106_E) (by intro a b h; simp [g106_E,Prod.ext_iff] at h ⊢; simp [h]) ((y0,y1,y2,y3),(y4,y5,y6,y7),q0)
end
end Go.Proofs.TM
