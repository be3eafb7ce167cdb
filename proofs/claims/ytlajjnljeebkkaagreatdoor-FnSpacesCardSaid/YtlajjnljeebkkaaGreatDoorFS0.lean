/- Functions of the program, as functions of their data: written by program. -/
import Derived.Test.YtlajjnljeebkkaaGreatDoorTShelf
import Derived.Test.YtlajjnljeebkkaaGreatDoorTBack
import Derived.Test.YtlajjnljeebkkaaGreatDoorTLib
import Derived.Test.YtlajjnljeebkkaaGreatDoorProg
import Derived.KernelRfl
namespace Go.Proofs.TM
open Go Go.Proofs
set_option linter.unusedVariables false
set_option linter.unusedSimpArgs false
set_option maxHeartbeats 1000000
attribute [-simp] Option.map_bind strV_some
attribute [simp] guardOn_bool sA_bslice Function.comp_def
noncomputable section

/-! spec.l00From -/
def g48_tf:TFn:=⟨(sq [mk 2 (.c .nilp)] [0] (.seq (.ops [mo 3 0,oo 4 (.build [.nils,(.int .i64 0),(.int .u64 0)] [(0,1,(.t 3))]),bx 5 4,mo 2 5]) (.keep (kp [(2,0)] [(0,0)] 0) .ret))),[.t 2]⟩
abbrev g48_S:=Sys.on [] []
def spec_l00From (a_code:List Bt):Option (List Bt×Int×Int):=some (a_code,0,0)
@[simp] def g48_O:(List Bt×Int×Int)→TV×List Blk:=fun r=>((.ptr 0 0 0),[(.live 3 [[(.vs (rows r.1)),(.int .i64 r.2.1),(.int .u64 r.2.2)]])])
def g48_E (a:List Bt):List TV:=[(.vs (rows a))]
theorem g48_run (a_code:List Bt) :callFn (X g48_S) g48_tf (g48_E a_code) []=(spec_l00From a_code).map g48_O:=by
  rw [callFn_eq]
  simp (maxSteps:=2000000) (maxDischargeDepth:=8) -implicitDefEqProofs [g48_tf,spec_l00From,g48_E] <;> (try simp only [map_to_bind,some_elim,g48_O])
def g48_r:Rule:=RlO g48_E (fun a=>spec_l00From a) g48_O
theorem g48_ok:RuleOk Tryz.prog 15 g48_r:=ok_rlo (S:=g48_S) (tf:=g48_tf) (SysOk.on trivial trivial) (trE_ok (ks:=[]) Tryz.func15 (by kernel_rfl)) fun a=>g48_run a
@[simp] theorem g48_app (y0):g48_r [(.vs (rows y0))]=(spec_l00From y0).map g48_O :=
  RlO_app (enc:=g48_E) (by intro a b h;simp [g48_E,Prod.ext_iff] at h ⊢;simp [h]) y0
/-! (*spec.l00Src).next -/
def g18p1_c:TC:=(sq [mo 25 0,nk 26 25,fa 27 1 26,ld 28 27,bn 29 .add (.t 28) (ki 1),nk 30 25,fa 31 1 30,⟨none,none,(.store 1 (.t 31) (.t 29))⟩] [0,3] (sq [mo 32 0,mo 33 0,nk 34 33,fa 35 2 34,ld 36 35,oo 37 (.bin .num .mul (.t 36) (.c (.int .u64 6364136223846793005))),mo 38 3,oo 39 (.conv (.toInt .u64) (.t 38)),bn 40 .add (.t 37) (.t 39),oo 41 (.bin .num .add (.t 40) (.c (.int .u64 1442695040888963407))),nk 42 32,fa 43 2 42,⟨none,none,(.store 1 (.t 43) (.t 41))⟩] [0,3] (.seq (.seq (.draw [([],mo 44 0),([0],nk 45 44),([0,1],fa 46 1 45),([0,1,2],ld 47 46),([],mo 48 0),([4],nk 49 48),([4,5],fa 50 0 49),([4,5,6],ld 51 50),([4,5,6,7],le 52 51)] [bn 53 .leq (.t 47) (.t 52)]) (.trim [0,3,53] (.cond (.t 53) (.seq (.ops [mo 54 3,mo 2 54]) (.keep (kp [(2,0)] [(0,0)] 1) .ret)) .skip))) (.trim [0] (.seq (.ops [mo 55 0,nk 56 55,fa 57 2 56,ld 58 57,oo 59 (.bin .num .shr (.t 58) (.c (.int .u64 40))),oo 60 (.bin .num .and (.t 59) (.c (.int .u64 255))),oo 61 (.conv (.toInt .i64) (.t 60)),mo 2 61]) (.keep (kp [(2,0)] [(0,0)] 1) .ret))))))
def g18_tf:TFn:=⟨(sq [mk 2 (ki 0)] [0] (sq [mk 3 (ki 0)] [0,3] (.seq (.seq (.draw [([],mo 4 0),([0],nk 5 4),([0,1],fa 6 1 5),([0,1,2],ld 7 6),([],mo 8 0),([4],nk 9 8),([4,5],fa 10 0 9),([4,5,6],ld 11 10),([4,5,6,7],le 12 11)] [bn 13 .lss (.t 7) (.t 12)]) (.trim [0,3,13] (.cond (.t 13) (.after (.draw [([],mo 14 0),([0],nk 15 14),([0,1],fa 16 0 15),([0,1,2],ld 17 16),([],mo 18 0),([4],nk 19 18),([4,5],fa 20 1 19),([4,5,6],ld 21 20)] [ia 22 1 17 21,ld 23 22,oo 24 (.conv (.toInt .i64) (.t 23)),mo 3 24]) (kp [(0,0),(3,0)] [(0,0)] 1)) (.keep (kp [(0,0),(3,0)] [(0,0)] 1) .skip)))) (.trim [0,3] g18p1_c)))),[.t 2]⟩
abbrev g18_S:=Sys.on [] []
@[reducible,simp] def g18p1_F:(List Bt×Int×Int×Int)→Out:=(fun t=>(.ret,[(2,(.int .i64 t.2.2.2))],[(.live 3 [[(.vs (rows t.1)),(.int .i64 t.2.1),(.int .u64 t.2.2.1)]])]))
def spec_l00Src_next_o9d_p1 (v2:List Bt) (v3:Int) (v4:Int) (v5:Int):Option (List Bt×Int×Int×Int):=if (IntKind.i64.wrap (v3+1))≤(v2.length:Int) then some ((v2,(IntKind.i64.wrap (v3+1)),(IntKind.u64.wrap ((IntKind.u64.wrap ((IntKind.u64.wrap (v4 * 6364136223846793005))+(IntKind.u64.wrap v5)))+1442695040888963407)),v5)) else some ((v2,(IntKind.i64.wrap (v3+1)),(IntKind.u64.wrap ((IntKind.u64.wrap ((IntKind.u64.wrap (v4 * 6364136223846793005))+(IntKind.u64.wrap v5)))+1442695040888963407)),(IntKind.i64.wrap ((bitV .and .u64 ((shrV .u64 ((IntKind.u64.wrap ((IntKind.u64.wrap ((IntKind.u64.wrap (v4 * 6364136223846793005))+(IntKind.u64.wrap v5)))+1442695040888963407))) 40)) 255)))))
@[simp] theorem g18p1_eq (y0 y1 y2 y3):X g18_S g18p1_c [(0,(.ptr 0 0 0)),(3,(.int .i64 y3))] [(.live 3 [[(.vs (rows y0)),(.int .i64 y1),(.int .u64 y2)]])]=(spec_l00Src_next_o9d_p1 y0 y1 y2 y3).map g18p1_F:=by
  simp (maxSteps:=2000000) (maxDischargeDepth:=8) -implicitDefEqProofs [g18p1_c,spec_l00Src_next_o9d_p1] <;> (try simp only [map_to_bind,some_elim,g18p1_F])
def spec_l00Src_next_o9d (a1:List Bt) (a2:Int) (a3:Int):Option (List Bt×Int×Int×Int):=if a2 < (a1.length:Int) then if 0≤a2 then (a1[(a2).toNat]?).bind fun x1=>(spec_l00Src_next_o9d_p1 a1 a2 a3 ((IntKind.i64.wrap ((x1.v.toNat:Int))))).bind fun r6=>some (r6.1,r6.2.1,r6.2.2.1,r6.2.2.2) else none else (spec_l00Src_next_o9d_p1 a1 a2 a3 0).bind fun r7=>some (r7.1,r7.2.1,r7.2.2.1,r7.2.2.2)
@[simp] def g18_O:(List Bt×Int×Int×Int)→TV×List Blk:=fun r=>((.int .i64 r.2.2.2),[(.live 3 [[(.vs (rows r.1)),(.int .i64 r.2.1),(.int .u64 r.2.2.1)]])])
abbrev g18_T:=List Bt×Int×Int
def g18_E (a:g18_T):List TV:=[(.ptr 0 0 0)]
def g18_B (a:g18_T):List Blk:=[(.live 3 [[(.vs (rows a.1)),(.int .i64 a.2.1),(.int .u64 a.2.2)]])]
theorem g18_run (a1:List Bt) (a2:Int) (a3:Int) :callFn (X g18_S) g18_tf (g18_E (a1,a2,a3)) (g18_B (a1,a2,a3))=(spec_l00Src_next_o9d a1 a2 a3).map g18_O:=by
  rw [callFn_eq]
  simp (maxSteps:=2000000) (maxDischargeDepth:=8) -implicitDefEqProofs [g18_tf,spec_l00Src_next_o9d,g18_E,g18_B] <;> (try simp only [map_to_bind,some_elim,g18_O])
def g18_r:MRule:=RmO g18_E g18_B (fun a=>spec_l00Src_next_o9d a.1 a.2.1 a.2.2) g18_O
theorem g18_ok:MRuleOk Tryz.prog 48 1 g18_r:=ok_rmo (S:=g18_S) (tf:=g18_tf) (SysOk.on trivial trivial) (trE_ok (ks:=[[9],[8],[9]]) Tryz.func48 (by kernel_rfl)) (by rfl) (fun _=>by simp [g18_B]) (fun _=>by simp) fun a=>g18_run a.1 a.2.1 a.2.2
@[simp] theorem g18_app (y0 y1 y2):g18_r [(.ptr 0 0 0)] [(.live 3 [[(.vs (rows y0)),(.int .i64 y1),(.int .u64 y2)]])]=(spec_l00Src_next_o9d y0 y1 y2).map g18_O:=by
  exact RmO_app (enc:=g18_E) (encB:=g18_B) (by intro a b h h2;simp [g18_E,g18_B,Prod.ext_iff] at h h2 ⊢;simp [h,h2]) (y0,y1,y2)
/-! (*spec.l00Src).pick -/
def g19_tf:TFn:=⟨(sq [mk 4 (ki 0)] [0,1] (.seq (sq [mo 6 1,bn 7 .leq (.t 6) (ki 1)] [0,1,7] (.cond (.t 7) (.seq (.ops [mk 4 (ki 0)]) (.keep (kp [(4,0)] [(0,0)] 1) .ret)) .skip)) (.trim [0,1] (sq [mo 8 0,oo 9 (.callM 48 0 [0] [.t 8]),mo 5 9] [0,1,5] (.seq (sq [mo 10 1,bn 11 .gtr (.t 10) (ki 200)] [0,1,5,11] (.cond (.t 11) (.after (.ops [mo 12 5,bn 13 .mul (.t 12) (ki 256),mo 14 0,oo 15 (.callM 48 0 [0] [.t 14]),bn 16 .add (.t 13) (.t 15),mo 5 16]) (kp [(1,0),(5,0)] [(0,0)] 1)) (.keep (kp [(1,0),(5,0)] [(0,0)] 1) .skip))) (.trim [1,5] (.seq (.ops [mo 17 5,mo 18 1,bn 19 .rem (.t 17) (.t 18),mo 4 19]) (.keep (kp [(4,0)] [(0,0)] 1) .ret)))))))),[.t 4]⟩
abbrev g19_S:=Sys.on [] [((48,0),(1,g18_r))]
def spec_l00Src_pick_o30 (a1:List Bt) (a2:Int) (a3:Int) (a4:Int):Option (List Bt×Int×Int×Int):=if a4≤1 then some (a1,a2,a3,0) else (spec_l00Src_next_o9d a1 a2 a3).bind fun r1=>if a4 > 200 then (spec_l00Src_next_o9d r1.1 r1.2.1 r1.2.2.1).bind fun r2=>if a4=0 then none else some (r2.1,r2.2.1,r2.2.2.1,(Int.tmod ((IntKind.i64.wrap ((IntKind.i64.wrap (r1.2.2.2 * 256))+r2.2.2.2))) a4)) else if a4=0 then none else some (r1.1,r1.2.1,r1.2.2.1,(Int.tmod r1.2.2.2 a4))
@[simp] def g19_O:(List Bt×Int×Int×Int)→TV×List Blk:=fun r=>((.int .i64 r.2.2.2),[(.live 3 [[(.vs (rows r.1)),(.int .i64 r.2.1),(.int .u64 r.2.2.1)]])])
abbrev g19_T:=List Bt×Int×Int×Int
def g19_E (a:g19_T):List TV:=[(.ptr 0 0 0),(.int .i64 a.2.2.2)]
def g19_B (a:g19_T):List Blk:=[(.live 3 [[(.vs (rows a.1)),(.int .i64 a.2.1),(.int .u64 a.2.2.1)]])]
theorem g19_run (a1:List Bt) (a2:Int) (a3:Int) (a4:Int) :callFn (X g19_S) g19_tf (g19_E (a1,a2,a3,a4)) (g19_B (a1,a2,a3,a4))=(spec_l00Src_pick_o30 a1 a2 a3 a4).map g19_O:=by
  rw [callFn_eq]
  simp (maxSteps:=2000000) (maxDischargeDepth:=8) -implicitDefEqProofs [g19_tf,spec_l00Src_pick_o30,g19_E,g19_B] <;> (try simp only [map_to_bind,some_elim,g19_O])
def g19_r:MRule:=RmO g19_E g19_B (fun a=>spec_l00Src_pick_o30 a.1 a.2.1 a.2.2.1 a.2.2.2) g19_O
theorem g19_ok:MRuleOk Tryz.prog 33 1 g19_r:=ok_rmo (S:=g19_S) (tf:=g19_tf) (SysOk.on trivial ⟨g18_ok,trivial⟩) (trE_ok (ks:=[]) Tryz.func33 (by kernel_rfl)) (by rfl) (fun _=>by simp [g19_B]) (fun _=>by simp) fun a=>g19_run a.1 a.2.1 a.2.2.1 a.2.2.2
@[simp] theorem g19_app (y0 y1 y2 y3):g19_r [(.ptr 0 0 0),(.int .i64 y3)] [(.live 3 [[(.vs (rows y0)),(.int .i64 y1),(.int .u64 y2)]])]=(spec_l00Src_pick_o30 y0 y1 y2 y3).map g19_O:=by
  exact RmO_app (enc:=g19_E) (encB:=g19_B) (by intro a b h h2;simp [g19_E,g19_B,Prod.ext_iff] at h h2 ⊢;simp [h,h2]) (y0,y1,y2,y3)
/-! (*spec.l00Src).among -/
def g13_tf:TFn:=⟨(sq [mk 4 (ki 0)] [0,1] (.seq (.ops [mo 5 1,mo 6 0,mo 7 1,le 8 7,oo 9 (.callM 33 0 [0] [.t 6,.t 8]),ia 10 1 5 9,ld 11 10,mo 4 11]) (.keep (kp [(4,0)] [(0,0),(1,0)] 2) .ret))),[.t 4]⟩
abbrev g13_S:=Sys.on [] [((33,0),(1,g19_r))]
def spec_l00Src_among_o72 (a1:List Bt) (a2:Int) (a3:Int) (a4:List Int):Option (List Bt×Int×Int×List Int×Int):=(spec_l00Src_pick_o30 a1 a2 a3 (((a4.length:Nat):Int))).bind fun r1=>if 0≤r1.2.2.2∧r1.2.2.2 < ((a4.length:Nat):Int) then (a4[(r1.2.2.2).toNat]?).bind fun x2=>some (r1.1,r1.2.1,r1.2.2.1,a4,x2) else none
@[simp] def g13_O:(List Bt×Int×Int×List Int×Int)→TV×List Blk:=fun r=>((.int .i64 r.2.2.2.2),[(.live 3 [[(.vs (rows r.1)),(.int .i64 r.2.1),(.int .u64 r.2.2.1)]]),(.live 1 (rows r.2.2.2.1))])
abbrev g13_T:=List Bt×Int×Int×List Int
def g13_E (a:g13_T):List TV:=[(.ptr 0 0 0),(.hs 1 0 a.2.2.2.length true)]
def g13_B (a:g13_T):List Blk:=[(.live 3 [[(.vs (rows a.1)),(.int .i64 a.2.1),(.int .u64 a.2.2.1)]]),(.live 1 (rows a.2.2.2))]
theorem g13_run (a1:List Bt) (a2:Int) (a3:Int) (a4:List Int) :callFn (X g13_S) g13_tf (g13_E (a1,a2,a3,a4)) (g13_B (a1,a2,a3,a4))=(spec_l00Src_among_o72 a1 a2 a3 a4).map g13_O:=by
  rw [callFn_eq]
  simp (maxSteps:=2000000) (maxDischargeDepth:=8) -implicitDefEqProofs [g13_tf,spec_l00Src_among_o72,g13_E,g13_B] <;> (try simp only [map_to_bind,some_elim,g13_O])
def g13_r:MRule:=RmO g13_E g13_B (fun a=>(spec_l00Src_among_o72 a.1 a.2.1 a.2.2.1 a.2.2.2).bind fun r=>if r.2.2.2.1.length=a.2.2.2.length then some (r.1,r.2.1,r.2.2.1,(fixLen a.2.2.2 r.2.2.2.1),r.2.2.2.2) else none) g13_O
theorem g13_ok0:MRuleOk Tryz.prog 35 2 (RmO g13_E g13_B (fun a=>spec_l00Src_among_o72 a.1 a.2.1 a.2.2.1 a.2.2.2) g13_O):=ok_rmo (S:=g13_S) (tf:=g13_tf) (SysOk.on trivial ⟨g19_ok,trivial⟩) (trE_ok (ks:=[]) Tryz.func35 (by kernel_rfl)) (by rfl) (fun _=>by simp [g13_B]) (fun _=>by simp) fun a=>g13_run a.1 a.2.1 a.2.2.1 a.2.2.2
theorem g13_ok:MRuleOk Tryz.prog 35 2 g13_r:=g13_ok0.weak fun a r hr=>by
  simp only [Option.bind_eq_some_iff] at hr
  obtain ⟨x,h1,h2⟩:=hr
  split at h2
  · rename_i hc
    simp only [Option.some.injEq] at h2
    rw [h1,← h2]
    simp [fixLen,hc]
  · cases h2
@[simp] theorem g13_app (y0 y1 y2)(y3:List Int){n1:Nat}(h1:n1=y3.length):g13_r [(.ptr 0 0 0),(.hs 1 0 n1 true)] [(.live 3 [[(.vs (rows y0)),(.int .i64 y1),(.int .u64 y2)]]),(.live 1 (rows y3))]=((spec_l00Src_among_o72 y0 y1 y2 y3).bind fun r=>if r.2.2.2.1.length=y3.length then some (r.1,r.2.1,r.2.2.1,(fixLen y3 r.2.2.2.1),r.2.2.2.2) else none).map g13_O:=by
  subst h1
  exact RmO_app (enc:=g13_E) (encB:=g13_B) (by intro a b h h2;simp [g13_E,g13_B,Prod.ext_iff] at h h2 ⊢;simp [h,h2]) (y0,y1,y2,y3)
/-! (*spec.l00Src).one -/
def g23_tf:TFn:=⟨(sq [mk 4 (kb false)] [0,1] (.seq (.ops [mo 5 0,mo 6 1,oo 7 (.callM 33 0 [0] [.t 5,.t 6]),bn 8 .eql (.t 7) (ki 0),mo 4 8]) (.keep (kp [(4,0)] [(0,0)] 1) .ret))),[.t 4]⟩
abbrev g23_S:=Sys.on [] [((33,0),(1,g19_r))]
def spec_l00Src_one_o30 (a1:List Bt) (a2:Int) (a3:Int) (a4:Int):Option (List Bt×Int×Int×Bool):=(spec_l00Src_pick_o30 a1 a2 a3 a4).bind fun r1=>some (r1.1,r1.2.1,r1.2.2.1,(decide (r1.2.2.2=0)))
@[simp] def g23_O:(List Bt×Int×Int×Bool)→TV×List Blk:=fun r=>((.bool r.2.2.2),[(.live 3 [[(.vs (rows r.1)),(.int .i64 r.2.1),(.int .u64 r.2.2.1)]])])
abbrev g23_T:=List Bt×Int×Int×Int
def g23_E (a:g23_T):List TV:=[(.ptr 0 0 0),(.int .i64 a.2.2.2)]
def g23_B (a:g23_T):List Blk:=[(.live 3 [[(.vs (rows a.1)),(.int .i64 a.2.1),(.int .u64 a.2.2.1)]])]
theorem g23_run (a1:List Bt) (a2:Int) (a3:Int) (a4:Int) :callFn (X g23_S) g23_tf (g23_E (a1,a2,a3,a4)) (g23_B (a1,a2,a3,a4))=(spec_l00Src_one_o30 a1 a2 a3 a4).map g23_O:=by
  rw [callFn_eq]
  simp (maxSteps:=2000000) (maxDischargeDepth:=8) -implicitDefEqProofs [g23_tf,spec_l00Src_one_o30,g23_E,g23_B] <;> (try simp only [map_to_bind,some_elim,g23_O])
def g23_r:MRule:=RmO g23_E g23_B (fun a=>spec_l00Src_one_o30 a.1 a.2.1 a.2.2.1 a.2.2.2) g23_O
theorem g23_ok:MRuleOk Tryz.prog 71 1 g23_r:=ok_rmo (S:=g23_S) (tf:=g23_tf) (SysOk.on trivial ⟨g19_ok,trivial⟩) (trE_ok (ks:=[]) Tryz.func71 (by kernel_rfl)) (by rfl) (fun _=>by simp [g23_B]) (fun _=>by simp) fun a=>g23_run a.1 a.2.1 a.2.2.1 a.2.2.2
@[simp] theorem g23_app (y0 y1 y2 y3):g23_r [(.ptr 0 0 0),(.int .i64 y3)] [(.live 3 [[(.vs (rows y0)),(.int .i64 y1),(.int .u64 y2)]])]=(spec_l00Src_one_o30 y0 y1 y2 y3).map g23_O:=by
  exact RmO_app (enc:=g23_E) (encB:=g23_B) (by intro a b h h2;simp [g23_E,g23_B,Prod.ext_iff] at h h2 ⊢;simp [h,h2]) (y0,y1,y2,y3)
/-! spec.l05Draw -/
def g28p2_c:TC:=(.after (.ops [mo 19 5,mo 20 6,oo 21 (.bslice [(.int .i64 0)] 1 [(0,(.t 20))]),oo 22 (.append 2 1 8 (.t 19) (.t 21)),mo 5 22]) (kp [(0,0),(1,0),(5,1)] [(0,0),(3,1)] 1))
def g28l1_cb:TC:=(.seq (sq [mo 8 1,bn 9 .gtr (.t 8) (ki 0)] [0,1,5,9] (.cond (.t 9) .skip (.keep (kp [(0,0),(5,1)] [(0,0),(1,1)] 1) (.exit 0)))) (.trim [0,1,5] (.seq (.block 1 (sq [mo 12 0,oo 13 (.callM 33 0 [0] [.t 12,ki 6]),bn 14 .add (ki 1) (.t 13),mo 6 14] [0,1,5,6] (.seq (sq [mo 15 0,oo 16 (.callM 71 0 [0] [.t 15,ki 8])] [0,1,5,6,16] (.cond (.t 16) (.after (.ops [mo 17 0,oo 18 (.callM 33 0 [0] [.t 17,ki 9]),mo 6 18]) (kp [(0,0),(1,0),(5,1),(6,0)] [(0,0),(1,1)] 1)) (.keep (kp [(0,0),(1,0),(5,1),(6,0)] [(0,0),(1,1)] 1) .skip))) (.trim [0,1,5,6] g28p2_c)))) (.trim [0,1,5] (.after (.ops [mo 10 1,bn 11 .sub (.t 10) (ki 1),mo 1 11]) (kp [(0,0),(1,0),(5,1)] [(0,0),(1,1)] 1))))))
def g28l1_c:TC:=.loop [0,1,5] g28l1_cb
def g28_tf:TFn:=⟨(sq [mk 4 (.c .nils)] [0,1] (sq [oo 7 (.bslice [(.int .i64 0)] 0 []),mo 5 7] [0,1,5] (.seq (.block 0 (.keep (kp [(0,0),(1,0),(5,1)] [(0,0),(1000,1)] 1) g28l1_c)) (.trim [0,5] (.seq (sq [mo 23 5,le 24 23,bn 25 .eql (.t 24) (ki 1),mo 26 25,⟨(some 27),(some (26,true)),(.mv (.t 0))⟩,⟨(some 28),(some (26,true)),(.callM 71 0 [0] [.t 27,ki 6])⟩,pk 29 (.t 26) (.t 28) (kb false)] [0,5,29] (.cond (.t 29) (.after (.ops [mo 30 5,mo 31 0,oo 32 (.bslice [(.int .i64 0)] 3 [(0,(ki 40)),(1,(ki 39)),(2,(ki 17))]),oo 33 (.callM 35 0 [0,2] [.t 31,.t 32]),oo 34 (.iaddr 1 (.t 30) (ki 0)),⟨none,none,(.store 1 (.t 34) (.t 33))⟩]) (kp [(5,1)] [(0,0),(1,1)] 1)) (.keep (kp [(5,1)] [(0,0),(1,1)] 1) .skip))) (.trim [5] (.seq (.ops [mo 35 5,mo 4 35]) (.keep (kp [(4,1)] [(0,0),(1,1)] 1) .ret)))))))),[.t 4]⟩
abbrev g28_S:=Sys.on [] [((33,0),(1,g19_r)),((71,0),(1,g23_r)),((35,0),(2,g13_r))]
@[reducible,simp] def g28p2_F:(List Bt×Int×Int×Int×List Int)→Out:=(fun t=>(.nrm,[(0,(.ptr 0 0 0)),(1,(.int .i64 t.2.2.2.1)),(5,(ow 1 t.2.2.2.2.length))],[(.live 3 [[(.vs (rows t.1)),(.int .i64 t.2.1),(.int .u64 t.2.2.1)]]),(ob 1 t.2.2.2.2)]))
def spec_l05Draw_o30_p2 (v9:List Bt) (v10:Int) (v11:Int) (v12:Int) (v13:List Int) (v14:Int):Option (List Bt×Int×Int×Int×List Int):=(appL 8 v13 ((lit [v14]:List Int))).bind fun l15=>some ((v9,v10,v11,v12,l15))
@[simp] theorem g28p2_eq (y0 y1 y2 y3)(y4:List Int)(y5){n1:Nat}(h1:n1=y4.length):X g28_S g28p2_c [(0,(.ptr 0 0 0)),(1,(.int .i64 y3)),(5,(ow 1 n1)),(6,(.int .i64 y5))] [(.live 3 [[(.vs (rows y0)),(.int .i64 y1),(.int .u64 y2)]]),(ob 1 y4)]=(spec_l05Draw_o30_p2 y0 y1 y2 y3 y4 y5).map g28p2_F:=by
  subst h1
  simp (maxSteps:=2000000) (maxDischargeDepth:=8) -implicitDefEqProofs [g28p2_c,spec_l05Draw_o30_p2,bslV_lit (α:=Int) (zs:=[(.int .i64 0)])] <;> (try simp only [map_to_bind,some_elim,g28p2_F])
@[reducible,simp] def g28l1_F:(List Bt×Int×Int×List Int)→Out:=(fun t=>(.ext 0,[(0,(.ptr 0 0 0)),(5,(ow 1 t.2.2.2.length))],[(.live 3 [[(.vs (rows t.1)),(.int .i64 t.2.1),(.int .u64 t.2.2.1)]]),(ob 1 t.2.2.2)]))
def spec_l05Draw_o30_l1_b (v1:List Bt) (v2:Int) (v3:Int) (v4:Int) (v5:List Int):Option ((List Bt×Int×Int×Int×List Int) ⊕ (List Bt×Int×Int×List Int)):=if v4 > 0 then (spec_l00Src_pick_o30 v1 v2 v3 6).bind fun r6=>(spec_l00Src_one_o30 r6.1 r6.2.1 r6.2.2.1 8).bind fun r7=>if r7.2.2.2=true then (spec_l00Src_pick_o30 r7.1 r7.2.1 r7.2.2.1 9).bind fun r8=>(spec_l05Draw_o30_p2 r8.1 r8.2.1 r8.2.2.1 v4 v5 r8.2.2.2).bind fun r16=>some (.inl (r16.1,r16.2.1,r16.2.2.1,(IntKind.i64.wrap (r16.2.2.2.1 - 1)),r16.2.2.2.2)) else (spec_l05Draw_o30_p2 r7.1 r7.2.1 r7.2.2.1 v4 v5 ((IntKind.i64.wrap (1+r6.2.2.2)))).bind fun r17=>some (.inl (r17.1,r17.2.1,r17.2.2.1,(IntKind.i64.wrap (r17.2.2.2.1 - 1)),r17.2.2.2.2)) else some (.inr (v1,v2,v3,v5))
theorem g28l1_b_eq  (v1:List Bt) (v2:Int) (v3:Int) (v4:Int) (v5:List Int):X g28_S g28l1_cb (keepEnv [0,1,5] [(0,(.ptr 0 0 0)),(1,(.int .i64 v4)),(5,(ow 1 v5.length))]) [(.live 3 [[(.vs (rows v1)),(.int .i64 v2),(.int .u64 v3)]]),(ob 1 v5)]=(spec_l05Draw_o30_l1_b v1 v2 v3 v4 v5).map (Sum.elim (fun s=>(TX.nrm,[(0,(.ptr 0 0 0)),(1,(.int .i64 s.2.2.2.1)),(5,(ow 1 s.2.2.2.2.length))],[(.live 3 [[(.vs (rows s.1)),(.int .i64 s.2.1),(.int .u64 s.2.2.1)]]),(ob 1 s.2.2.2.2)])) g28l1_F):=by
  simp (maxSteps:=2000000) (maxDischargeDepth:=8) -implicitDefEqProofs [g28l1_cb,spec_l05Draw_o30_l1_b,bslV_lit (α:=Int) (zs:=[(.int .i64 0)])] <;> (try simp only [map_to_bind,some_elim,g28l1_F])
def spec_l05Draw_o30_l1  (s:List Bt×Int×Int×Int×List Int):Option (List Bt×Int×Int×List Int):=loopO (fun s=>spec_l05Draw_o30_l1_b  s.1 s.2.1 s.2.2.1 s.2.2.2.1 s.2.2.2.2) s
@[simp] theorem g28l1_eq (y0 y1 y2 y3)(y4:List Int){n1:Nat}(h1:n1=y4.length):X g28_S g28l1_c [(0,(.ptr 0 0 0)),(1,(.int .i64 y3)),(5,(ow 1 n1))] [(.live 3 [[(.vs (rows y0)),(.int .i64 y1),(.int .u64 y2)]]),(ob 1 y4)]=(spec_l05Draw_o30_l1  (y0,y1,y2,y3,y4)).map g28l1_F:=by
  subst h1
  exact loop_X _ _ _ _ (by intro r;first | (simp;done) | (rcases r with r | r <;> simp;done) | (rcases r with r | r | r <;> simp;done) | (rcases r with r | r | r | r <;> simp)) (fun s=>g28l1_b_eq   s.1 s.2.1 s.2.2.1 s.2.2.2.1 s.2.2.2.2) (y0,y1,y2,y3,y4)
@[simp] theorem g28l1_eq_4 (y0 y1 y2 y3):X g28_S g28l1_c [(0,(.ptr 0 0 0)),(1,(.int .i64 y3)),(5,.es)] [(.live 3 [[(.vs (rows y0)),(.int .i64 y1),(.int .u64 y2)]]),.dead]=(spec_l05Draw_o30_l1  (y0,y1,y2,y3,([]:List Int))).map g28l1_F :=
  g28l1_eq  y0 y1 y2 y3 ([]:List Int) rfl
def spec_l05Draw_o30 (a1:List Bt) (a2:Int) (a3:Int) (a4:Int):Option (List Bt×Int×Int×List Int):=(spec_l05Draw_o30_l1 ((a1,a2,a3,a4,([]:List Int)))).bind fun r18=>if ((r18.2.2.2.length:Nat):Int)=1 then (spec_l00Src_one_o30 r18.1 r18.2.1 r18.2.2.1 6).bind fun r19=>if r19.2.2.2=true then (spec_l00Src_among_o72 r19.1 r19.2.1 r19.2.2.1 ((lit [40,39,17]:List Int))).bind fun r20=>if r20.2.2.2.1.length=((lit [40,39,17]:List Int)).length then if 0≤(0:Int)∧(0:Int) < ((r18.2.2.2.length:Nat):Int) then (r18.2.2.2[((0:Int)).toNat]?).bind fun x21=>some (r20.1,r20.2.1,r20.2.2.1,(r18.2.2.2.set ((0:Int)).toNat r20.2.2.2.2)) else none else none else some (r19.1,r19.2.1,r19.2.2.1,r18.2.2.2) else some (r18.1,r18.2.1,r18.2.2.1,r18.2.2.2)
@[simp] def g28_O:(List Bt×Int×Int×List Int)→TV×List Blk:=fun r=>((ow 1 r.2.2.2.length),[(.live 3 [[(.vs (rows r.1)),(.int .i64 r.2.1),(.int .u64 r.2.2.1)]]),(ob 1 r.2.2.2)])
abbrev g28_T:=List Bt×Int×Int×Int
def g28_E (a:g28_T):List TV:=[(.ptr 0 0 0),(.int .i64 a.2.2.2)]
def g28_B (a:g28_T):List Blk:=[(.live 3 [[(.vs (rows a.1)),(.int .i64 a.2.1),(.int .u64 a.2.2.1)]])]
theorem g28_run (a1:List Bt) (a2:Int) (a3:Int) (a4:Int) :callFn (X g28_S) g28_tf (g28_E (a1,a2,a3,a4)) (g28_B (a1,a2,a3,a4))=(spec_l05Draw_o30 a1 a2 a3 a4).map g28_O:=by
  rw [callFn_eq]
  simp (maxSteps:=2000000) (maxDischargeDepth:=8) -implicitDefEqProofs [g28_tf,spec_l05Draw_o30,g28_E,g28_B,bslV_lit (α:=Int) (zs:=[(.int .i64 0)])] <;> (try simp only [map_to_bind,some_elim,g28_O])
def g28_r:MRule:=RmO g28_E g28_B (fun a=>spec_l05Draw_o30 a.1 a.2.1 a.2.2.1 a.2.2.2) g28_O
theorem g28_ok:MRuleOk Tryz.prog 62 1 g28_r:=ok_rmo (S:=g28_S) (tf:=g28_tf) (SysOk.on trivial ⟨g19_ok,g23_ok,g13_ok,trivial⟩) (trE_ok (ks:=[[0,1,5]]) Tryz.func62 (by kernel_rfl)) (by rfl) (fun _=>by simp [g28_B]) (fun _=>by simp) fun a=>g28_run a.1 a.2.1 a.2.2.1 a.2.2.2
@[simp] theorem g28_app (y0 y1 y2 y3):g28_r [(.ptr 0 0 0),(.int .i64 y3)] [(.live 3 [[(.vs (rows y0)),(.int .i64 y1),(.int .u64 y2)]])]=(spec_l05Draw_o30 y0 y1 y2 y3).map g28_O:=by
  exact RmO_app (enc:=g28_E) (encB:=g28_B) (by intro a b h h2;simp [g28_E,g28_B,Prod.ext_iff] at h h2 ⊢;simp [h,h2]) (y0,y1,y2,y3)
/-! spec.l05DrawDims -/
def g20_tf:TFn:=⟨(sq [mk 2 (.c .nils)] [0] (sq [mo 4 0,oo 5 (.bslice [(.int .i64 0)] 8 [(0,(ki 1)),(1,(ki 1)),(2,(ki 2)),(3,(ki 2)),(4,(ki 2)),(5,(ki 3)),(6,(ki 3)),(7,(ki 0))]),oo 6 (.callM 35 0 [0,1] [.t 4,.t 5]),mo 3 6] [0,3] (.seq (.ops [mo 7 0,mo 8 3,oo 9 (.callM 62 0 [0] [.t 7,.t 8]),mo 2 9]) (.keep (kp [(2,1)] [(0,0),(2,1)] 1) .ret)))),[.t 2]⟩
abbrev g20_S:=Sys.on [] [((35,0),(2,g13_r)),((62,0),(1,g28_r))]
def spec_l05DrawDims_o9d (a1:List Bt) (a2:Int) (a3:Int):Option (List Bt×Int×Int×List Int):=(spec_l00Src_among_o72 a1 a2 a3 ((lit [1,1,2,2,2,3,3,0]:List Int))).bind fun r1=>if r1.2.2.2.1.length=((lit [1,1,2,2,2,3,3,0]:List Int)).length then (spec_l05Draw_o30 r1.1 r1.2.1 r1.2.2.1 r1.2.2.2.2).bind fun r2=>some (r2.1,r2.2.1,r2.2.2.1,r2.2.2.2) else none
@[simp] def g20_O:(List Bt×Int×Int×List Int)→TV×List Blk:=fun r=>((ow 1 r.2.2.2.length),[(.live 3 [[(.vs (rows r.1)),(.int .i64 r.2.1),(.int .u64 r.2.2.1)]]),(ob 1 r.2.2.2)])
abbrev g20_T:=List Bt×Int×Int
def g20_E (a:g20_T):List TV:=[(.ptr 0 0 0)]
def g20_B (a:g20_T):List Blk:=[(.live 3 [[(.vs (rows a.1)),(.int .i64 a.2.1),(.int .u64 a.2.2)]])]
theorem g20_run (a1:List Bt) (a2:Int) (a3:Int) :callFn (X g20_S) g20_tf (g20_E (a1,a2,a3)) (g20_B (a1,a2,a3))=(spec_l05DrawDims_o9d a1 a2 a3).map g20_O:=by
  rw [callFn_eq]
  simp (maxSteps:=2000000) (maxDischargeDepth:=8) -implicitDefEqProofs [g20_tf,spec_l05DrawDims_o9d,g20_E,g20_B,bslV_lit (α:=Int) (zs:=[(.int .i64 0)])] <;> (try simp only [map_to_bind,some_elim,g20_O])
def g20_r:MRule:=RmO g20_E g20_B (fun a=>spec_l05DrawDims_o9d a.1 a.2.1 a.2.2) g20_O
theorem g20_ok:MRuleOk Tryz.prog 47 1 g20_r:=ok_rmo (S:=g20_S) (tf:=g20_tf) (SysOk.on trivial ⟨g13_ok,g28_ok,trivial⟩) (trE_ok (ks:=[]) Tryz.func47 (by kernel_rfl)) (by rfl) (fun _=>by simp [g20_B]) (fun _=>by simp) fun a=>g20_run a.1 a.2.1 a.2.2
@[simp] theorem g20_app (y0 y1 y2):g20_r [(.ptr 0 0 0)] [(.live 3 [[(.vs (rows y0)),(.int .i64 y1),(.int .u64 y2)]])]=(spec_l05DrawDims_o9d y0 y1 y2).map g20_O:=by
  exact RmO_app (enc:=g20_E) (encB:=g20_B) (by intro a b h h2;simp [g20_E,g20_B,Prod.ext_iff] at h h2 ⊢;simp [h,h2]) (y0,y1,y2)
/-! spec.l05DrawSpace -/
def g14p2_c:TC:=(.after (.ops [fa 33 1 3,ld 34 33,mo 35 5,oo 36 (.bslice [(.int .i64 0)] 1 [(0,(.t 35))]),oo 37 (.append 2 1 8 (.t 34) (.t 36)),fa 38 1 3,⟨none,none,(.store 1 (.t 38) (.t 37))⟩]) (kp [(0,0),(2,0),(3,0),(4,0)] [(0,0),(1,2),(2,2),(3,1),(6,1)] 1))
def g14l1_cb:TC:=(.seq (sq [mo 9 4,fa 10 0 3,ld 11 10,le 12 11,bn 13 .lss (.t 9) (.t 12)] [0,2,3,4,13] (.cond (.t 13) .skip (.keep (kp [(2,0),(3,0)] [(0,0),(1,2),(2,2),(3,1),(4,1)] 1) (.exit 0)))) (.trim [0,2,3,4] (.seq (.block 1 (sq [fa 16 0 3,ld 17 16,mo 18 4,ia 19 1 17 18,ld 20 19,mo 5 20] [0,2,3,4,5] (.seq (sq [mo 21 0,oo 22 (.callM 33 0 [0] [.t 21,ki 4])] [0,2,3,4,5,22] (.block 2 (sq [bn 24 .eql (.t 22) (ki 0),mo 23 24] [0,2,3,4,5,22,23] (.cond (.t 23) (.after (.ops [mk 5 (ki (-1))]) (kp [(0,0),(2,0),(3,0),(4,0),(5,0)] [(0,0),(1,2),(2,2),(3,1),(4,1)] 1)) (sq [bn 26 .eql (.t 22) (ki 1),mo 25 26] [0,2,3,4,5,25] (.cond (.t 25) (.after (.ops [mo 27 5,mo 28 0,mo 29 5,bn 30 .sub (ki 41) (.t 29),oo 31 (.callM 33 0 [0] [.t 28,.t 30]),bn 32 .add (.t 27) (.t 31),mo 5 32]) (kp [(0,0),(2,0),(3,0),(4,0),(5,0)] [(0,0),(1,2),(2,2),(3,1),(4,1)] 1)) (.keep (kp [(0,0),(2,0),(3,0),(4,0),(5,0)] [(0,0),(1,2),(2,2),(3,1),(4,1)] 1) .skip))))))) (.trim [0,2,3,4,5] g14p2_c)))) (.trim [0,2,3,4] (.after (.ops [mo 14 4,bn 15 .add (.t 14) (ki 1),mo 4 15]) (kp [(0,0),(2,0),(3,0),(4,0)] [(0,0),(1,2),(2,2),(3,1),(4,1)] 1))))))
def g14l1_c:TC:=.loop [0,2,3,4] g14l1_cb
def g14_tf:TFn:=⟨(sq [oo 2 (.alloc [.nils,.nils])] [0,2] (sq [mo 6 0,oo 7 (.callM 47 0 [0] [.t 6]),oo 8 (.build [.nils,.nils] [(0,1,(.t 7))]),oo 3 (.alloc [.nils,.nils]),⟨none,none,(.store 2 (.t 3) (.t 8))⟩] [0,2,3] (.seq (sq [mk 4 (ki 0)] [0,2,3,4] (.block 0 (.keep (kp [(0,0),(2,0),(3,0),(4,0)] [(0,0),(1,2),(3,2),(2,1),(1000,1)] 1) g14l1_c))) (.trim [2,3] (.seq (.ops [ln 39 2 3,⟨none,none,(.store 2 (.t 2) (.t 39))⟩]) (.keep (kp [(2,0)] [(0,0),(1,2),(3,1),(4,1)] 1) .ret)))))),[.cell 2 (some 2)]⟩
abbrev g14_S:=Sys.on [] [((47,0),(1,g20_r)),((33,0),(1,g19_r))]
@[reducible,simp] def g14p2_F:(List Bt×Int×Int×(List Int×List Int)×Int)→Out:=(fun t=>(.nrm,[(0,(.ptr 0 0 0)),(2,(.ptr 1 0 0)),(3,(.ptr 2 0 0)),(4,(.int .i64 t.2.2.2.2))],[(.live 3 [[(.vs (rows t.1)),(.int .i64 t.2.1),(.int .u64 t.2.2.1)]]),(.live 2 [[.es,.es]]),(.live 2 [[(ow 3 t.2.2.2.1.1.length),(ow 4 t.2.2.2.1.2.length)]]),(ob 1 t.2.2.2.1.1),(ob 1 t.2.2.2.1.2)]))
def spec_l05DrawSpace_o9d_p2 (v10:List Bt) (v11:Int) (v12:Int) (v13:List Int×List Int) (v14:Int) (v15:Int):Option (List Bt×Int×Int×(List Int×List Int)×Int):=(appL 8 v13.2 ((lit [v15]:List Int))).bind fun l16=>some ((v10,v11,v12,(v13.1,l16),v14))
@[simp] theorem g14p2_eq (y0 y1 y2)(y3:List Int)(y4:List Int)(y5 y6){n1:Nat}(h1:n1=y3.length){n2:Nat}(h2:n2=y4.length):X g14_S g14p2_c [(0,(.ptr 0 0 0)),(2,(.ptr 1 0 0)),(3,(.ptr 2 0 0)),(4,(.int .i64 y5)),(5,(.int .i64 y6))] [(.live 3 [[(.vs (rows y0)),(.int .i64 y1),(.int .u64 y2)]]),(.live 2 [[.es,.es]]),(.live 2 [[(ow 3 n1),(ow 4 n2)]]),(ob 1 y3),(ob 1 y4)]=(spec_l05DrawSpace_o9d_p2 y0 y1 y2 ((y3,y4)) y5 y6).map g14p2_F:=by
  subst h1 h2
  simp (maxSteps:=2000000) (maxDischargeDepth:=8) -implicitDefEqProofs [g14p2_c,spec_l05DrawSpace_o9d_p2,bslV_lit (α:=Int) (zs:=[(.int .i64 0)])] <;> (try simp only [map_to_bind,some_elim,g14p2_F])
@[reducible,simp] def g14l1_F:(List Bt×Int×Int×(List Int×List Int))→Out:=(fun t=>(.ext 0,[(2,(.ptr 1 0 0)),(3,(.ptr 2 0 0))],[(.live 3 [[(.vs (rows t.1)),(.int .i64 t.2.1),(.int .u64 t.2.2.1)]]),(.live 2 [[.es,.es]]),(.live 2 [[(ow 3 t.2.2.2.1.length),(ow 4 t.2.2.2.2.length)]]),(ob 1 t.2.2.2.1),(ob 1 t.2.2.2.2)]))
def spec_l05DrawSpace_o9d_l1_b (v2:List Bt) (v3:Int) (v4:Int) (v5:List Int×List Int) (v6:Int):Option ((List Bt×Int×Int×(List Int×List Int)×Int) ⊕ (List Bt×Int×Int×(List Int×List Int))):=if v6 < ((v5.1.length:Nat):Int) then if 0≤v6∧v6 < ((v5.1.length:Nat):Int) then (v5.1[(v6).toNat]?).bind fun x7=>(spec_l00Src_pick_o30 v2 v3 v4 4).bind fun r8=>if r8.2.2.2=0 then (spec_l05DrawSpace_o9d_p2 r8.1 r8.2.1 r8.2.2.1 v5 v6 ((-1))).bind fun r17=>some (.inl (r17.1,r17.2.1,r17.2.2.1,r17.2.2.2.1,(IntKind.i64.wrap (r17.2.2.2.2+1)))) else if r8.2.2.2=1 then (spec_l00Src_pick_o30 r8.1 r8.2.1 r8.2.2.1 ((IntKind.i64.wrap (41 - x7)))).bind fun r9=>(spec_l05DrawSpace_o9d_p2 r9.1 r9.2.1 r9.2.2.1 v5 v6 ((IntKind.i64.wrap (x7+r9.2.2.2)))).bind fun r18=>some (.inl (r18.1,r18.2.1,r18.2.2.1,r18.2.2.2.1,(IntKind.i64.wrap (r18.2.2.2.2+1)))) else (spec_l05DrawSpace_o9d_p2 r8.1 r8.2.1 r8.2.2.1 v5 v6 x7).bind fun r19=>some (.inl (r19.1,r19.2.1,r19.2.2.1,r19.2.2.2.1,(IntKind.i64.wrap (r19.2.2.2.2+1)))) else none else some (.inr (v2,v3,v4,v5))
theorem g14l1_b_eq  (v2:List Bt) (v3:Int) (v4:Int) (v5:List Int×List Int) (v6:Int):X g14_S g14l1_cb (keepEnv [0,2,3,4] [(0,(.ptr 0 0 0)),(2,(.ptr 1 0 0)),(3,(.ptr 2 0 0)),(4,(.int .i64 v6))]) [(.live 3 [[(.vs (rows v2)),(.int .i64 v3),(.int .u64 v4)]]),(.live 2 [[.es,.es]]),(.live 2 [[(ow 3 v5.1.length),(ow 4 v5.2.length)]]),(ob 1 v5.1),(ob 1 v5.2)]=(spec_l05DrawSpace_o9d_l1_b v2 v3 v4 v5 v6).map (Sum.elim (fun s=>(TX.nrm,[(0,(.ptr 0 0 0)),(2,(.ptr 1 0 0)),(3,(.ptr 2 0 0)),(4,(.int .i64 s.2.2.2.2))],[(.live 3 [[(.vs (rows s.1)),(.int .i64 s.2.1),(.int .u64 s.2.2.1)]]),(.live 2 [[.es,.es]]),(.live 2 [[(ow 3 s.2.2.2.1.1.length),(ow 4 s.2.2.2.1.2.length)]]),(ob 1 s.2.2.2.1.1),(ob 1 s.2.2.2.1.2)])) g14l1_F):=by
  simp (maxSteps:=2000000) (maxDischargeDepth:=8) -implicitDefEqProofs [g14l1_cb,spec_l05DrawSpace_o9d_l1_b,bslV_lit (α:=Int) (zs:=[(.int .i64 0)])] <;> (try simp only [map_to_bind,some_elim,g14l1_F])
def spec_l05DrawSpace_o9d_l1  (s:List Bt×Int×Int×(List Int×List Int)×Int):Option (List Bt×Int×Int×(List Int×List Int)):=loopO (fun s=>spec_l05DrawSpace_o9d_l1_b  s.1 s.2.1 s.2.2.1 s.2.2.2.1 s.2.2.2.2) s
@[simp] theorem g14l1_eq (y0 y1 y2)(y3:List Int)(y4:List Int)(y5){n1:Nat}(h1:n1=y3.length){n2:Nat}(h2:n2=y4.length):X g14_S g14l1_c [(0,(.ptr 0 0 0)),(2,(.ptr 1 0 0)),(3,(.ptr 2 0 0)),(4,(.int .i64 y5))] [(.live 3 [[(.vs (rows y0)),(.int .i64 y1),(.int .u64 y2)]]),(.live 2 [[.es,.es]]),(.live 2 [[(ow 3 n1),(ow 4 n2)]]),(ob 1 y3),(ob 1 y4)]=(spec_l05DrawSpace_o9d_l1  (y0,y1,y2,(y3,y4),y5)).map g14l1_F:=by
  subst h1 h2
  exact loop_X _ _ _ _ (by intro r;first | (simp;done) | (rcases r with r | r <;> simp;done) | (rcases r with r | r | r <;> simp;done) | (rcases r with r | r | r | r <;> simp)) (fun s=>g14l1_b_eq   s.1 s.2.1 s.2.2.1 s.2.2.2.1 s.2.2.2.2) (y0,y1,y2,(y3,y4),y5)
@[simp] theorem g14l1_eq_3x1 (y0 y1 y2)(y3:List Int)(y4){n1:Nat}(h1:n1=y3.length):X g14_S g14l1_c [(0,(.ptr 0 0 0)),(2,(.ptr 1 0 0)),(3,(.ptr 2 0 0)),(4,(.int .i64 y4))] [(.live 3 [[(.vs (rows y0)),(.int .i64 y1),(.int .u64 y2)]]),(.live 2 [[.es,.es]]),(.live 2 [[(ow 3 n1),.es]]),(ob 1 y3),.dead]=(spec_l05DrawSpace_o9d_l1  (y0,y1,y2,(y3,([]:List Int)),y4)).map g14l1_F :=
  g14l1_eq  y0 y1 y2 y3 ([]:List Int) y4 h1 rfl
def spec_l05DrawSpace_o9d (a1:List Bt) (a2:Int) (a3:Int):Option (List Bt×Int×Int×(List Int×List Int)):=(spec_l05DrawDims_o9d a1 a2 a3).bind fun r1=>(spec_l05DrawSpace_o9d_l1 ((r1.1,r1.2.1,r1.2.2.1,(r1.2.2.2,([]:List Int)),0))).bind fun r20=>some (r20.1,r20.2.1,r20.2.2.1,r20.2.2.2)
@[simp] def g14_O:(List Bt×Int×Int×(List Int×List Int))→TV×List Blk:=fun r=>((.agg [(ow 2 r.2.2.2.1.length),(ow 3 r.2.2.2.2.length)]),[(.live 3 [[(.vs (rows r.1)),(.int .i64 r.2.1),(.int .u64 r.2.2.1)]]),(.live 2 [[(ow 2 r.2.2.2.1.length),(ow 3 r.2.2.2.2.length)]]),(ob 1 r.2.2.2.1),(ob 1 r.2.2.2.2)])
abbrev g14_T:=List Bt×Int×Int
def g14_E (a:g14_T):List TV:=[(.ptr 0 0 0)]
def g14_B (a:g14_T):List Blk:=[(.live 3 [[(.vs (rows a.1)),(.int .i64 a.2.1),(.int .u64 a.2.2)]])]
theorem g14_run (a1:List Bt) (a2:Int) (a3:Int) :callFn (X g14_S) g14_tf (g14_E (a1,a2,a3)) (g14_B (a1,a2,a3))=(spec_l05DrawSpace_o9d a1 a2 a3).map g14_O:=by
  rw [callFn_eq]
  simp (maxSteps:=2000000) (maxDischargeDepth:=8) -implicitDefEqProofs [g14_tf,spec_l05DrawSpace_o9d,g14_E,g14_B,bslV_lit (α:=Int) (zs:=[(.int .i64 0)])] <;> (try simp only [map_to_bind,some_elim,g14_O])
def g14_r:MRule:=RmO g14_E g14_B (fun a=>spec_l05DrawSpace_o9d a.1 a.2.1 a.2.2) g14_O
theorem g14_ok:MRuleOk Tryz.prog 32 1 g14_r:=ok_rmo (S:=g14_S) (tf:=g14_tf) (SysOk.on trivial ⟨g20_ok,g19_ok,trivial⟩) (trE_ok (ks:=[[0,2,3,4]]) Tryz.func32 (by kernel_rfl)) (by rfl) (fun _=>by simp [g14_B]) (fun _=>by simp) fun a=>g14_run a.1 a.2.1 a.2.2
@[simp] theorem g14_app (y0 y1 y2):g14_r [(.ptr 0 0 0)] [(.live 3 [[(.vs (rows y0)),(.int .i64 y1),(.int .u64 y2)]])]=(spec_l05DrawSpace_o9d y0 y1 y2).map g14_O:=by
  exact RmO_app (enc:=g14_E) (encB:=g14_B) (by intro a b h h2;simp [g14_E,g14_B,Prod.ext_iff] at h h2 ⊢;simp [h,h2]) (y0,y1,y2)
/-! spec.l05Bent -/
def g29_tf:TFn:=⟨(sq [mk 2 (.c .nils)] [0] (sq [mo 4 0,oo 5 (.callM 47 0 [0] [.t 4]),mo 3 5] [0,3] (.seq (sq [mo 6 0,oo 7 (.callM 33 0 [0] [.t 6,ki 12])] [0,3,7] (.block 0 (sq [bn 9 .eql (.t 7) (ki 0),mo 8 9] [0,3,7,8] (.cond (.t 8) (.after (.ops [mo 10 3,mo 11 0,oo 12 (.bslice [(.int .i64 0)] 4 [(0,(ki (-1))),(1,(ki 40)),(2,(ki 41)),(3,(ki 0))]),oo 13 (.callM 35 0 [0,2] [.t 11,.t 12]),oo 14 (.bslice [(.int .i64 0)] 1 [(0,(.t 13))]),oo 15 (.append 2 1 8 (.t 10) (.t 14)),mo 3 15]) (kp [(3,1)] [(0,0),(4,1)] 1)) (sq [bn 17 .eql (.t 7) (ki 1),mo 16 17] [0,3,7,16] (.cond (.t 16) (.after (.ops [mo 18 3,oo 19 (.bslice [(.int .i64 0)] 3 [(0,(ki 1)),(1,(ki 1)),(2,(ki 1))]),oo 20 (.append 2 1 8 (.t 18) (.t 19)),mo 3 20]) (kp [(3,1)] [(0,0),(3,1)] 1)) (sq [bn 22 .eql (.t 7) (ki 2),mo 21 22] [0,3,21] (.cond (.t 21) (sq [oo 23 (.bslice [(.int .i64 0)] 2 [(0,(ki 25)),(1,(ki 24))]),mo 3 23] [0,3] (.after (.drawF [(none,mo 24 3),(none,oo 25 (.iaddr 1 (.t 24) (ki 1))),(none,ld 26 25),(none,mo 27 0),(some [24,25,26],oo 28 (.callM 33 0 [0] [.t 27,ki 2]))] [bn 29 .add (.t 26) (.t 28),oo 30 (.iaddr 1 (.t 24) (ki 1)),⟨none,none,(.store 1 (.t 30) (.t 29))⟩]) (kp [(3,1)] [(0,0),(2,1)] 1))) (.keep (kp [(3,1)] [(0,0),(1,1)] 1) .skip))))))))) (.trim [3] (.seq (.ops [mo 31 3,mo 2 31]) (.keep (kp [(2,1)] [(0,0),(1,1)] 1) .ret)))))),[.t 2]⟩
abbrev g29_S:=Sys.on [] [((47,0),(1,g20_r)),((33,0),(1,g19_r)),((35,0),(2,g13_r))]
def spec_l05Bent_o9d (a1:List Bt) (a2:Int) (a3:Int):Option (List Bt×Int×Int×List Int):=(spec_l05DrawDims_o9d a1 a2 a3).bind fun r1=>(spec_l00Src_pick_o30 r1.1 r1.2.1 r1.2.2.1 12).bind fun r2=>if r2.2.2.2=0 then (spec_l00Src_among_o72 r2.1 r2.2.1 r2.2.2.1 ((lit [(-1),40,41,0]:List Int))).bind fun r3=>if r3.2.2.2.1.length=((lit [(-1),40,41,0]:List Int)).length then (appL 8 r1.2.2.2 ((lit [r3.2.2.2.2]:List Int))).bind fun l4=>some (r3.1,r3.2.1,r3.2.2.1,l4) else none else if r2.2.2.2=1 then (appL 8 r1.2.2.2 ((lit [1,1,1]:List Int))).bind fun l5=>some (r2.1,r2.2.1,r2.2.2.1,l5) else if r2.2.2.2=2 then if 0≤(1:Int)∧(1:Int) < (((lit [25,24]:List Int).length:Nat):Int) then (((lit [25,24]:List Int))[((1:Int)).toNat]?).bind fun x6=>(spec_l00Src_pick_o30 r2.1 r2.2.1 r2.2.2.1 2).bind fun r7=>if (0≤(1:Int)∧(1:Int) < (((lit [25,24]:List Int).length:Nat):Int))∧((lit [25,24]:List Int))[((1:Int)).toNat]?=some x6 then if 0≤(1:Int)∧(1:Int) < (((lit [25,24]:List Int).length:Nat):Int) then (((lit [25,24]:List Int))[((1:Int)).toNat]?).bind fun x8=>some (r7.1,r7.2.1,r7.2.2.1,(((lit [25,24]:List Int)).set ((1:Int)).toNat (IntKind.i64.wrap (x6+r7.2.2.2)))) else none else none else none else some (r2.1,r2.2.1,r2.2.2.1,r1.2.2.2)
@[simp] def g29_O:(List Bt×Int×Int×List Int)→TV×List Blk:=fun r=>((ow 1 r.2.2.2.length),[(.live 3 [[(.vs (rows r.1)),(.int .i64 r.2.1),(.int .u64 r.2.2.1)]]),(ob 1 r.2.2.2)])
abbrev g29_T:=List Bt×Int×Int
def g29_E (a:g29_T):List TV:=[(.ptr 0 0 0)]
def g29_B (a:g29_T):List Blk:=[(.live 3 [[(.vs (rows a.1)),(.int .i64 a.2.1),(.int .u64 a.2.2)]])]
theorem g29_run (a1:List Bt) (a2:Int) (a3:Int) :callFn (X g29_S) g29_tf (g29_E (a1,a2,a3)) (g29_B (a1,a2,a3))=(spec_l05Bent_o9d a1 a2 a3).map g29_O:=by
  rw [callFn_eq]
  simp (maxSteps:=2000000) (maxDischargeDepth:=8) -implicitDefEqProofs [g29_tf,spec_l05Bent_o9d,g29_E,g29_B,bslV_lit (α:=Int) (zs:=[(.int .i64 0)])] <;> (try simp only [map_to_bind,some_elim,g29_O])
def g29_r:MRule:=RmO g29_E g29_B (fun a=>spec_l05Bent_o9d a.1 a.2.1 a.2.2) g29_O
theorem g29_ok:MRuleOk Tryz.prog 34 1 g29_r:=ok_rmo (S:=g29_S) (tf:=g29_tf) (SysOk.on trivial ⟨g20_ok,g19_ok,g13_ok,trivial⟩) (trE_ok (ks:=[[5,2000000,0,0,0,0,0,4,24,25,26]]) Tryz.func34 (by kernel_rfl)) (by rfl) (fun _=>by simp [g29_B]) (fun _=>by simp) fun a=>g29_run a.1 a.2.1 a.2.2
@[simp] theorem g29_app (y0 y1 y2):g29_r [(.ptr 0 0 0)] [(.live 3 [[(.vs (rows y0)),(.int .i64 y1),(.int .u64 y2)]])]=(spec_l05Bent_o9d y0 y1 y2).map g29_O:=by
  exact RmO_app (enc:=g29_E) (encB:=g29_B) (by intro a b h h2;simp [g29_E,g29_B,Prod.ext_iff] at h h2 ⊢;simp [h,h2]) (y0,y1,y2)
/-! spec.l05BentSpace -/
def g15_tf:TFn:=⟨(sq [oo 2 (.alloc [.nils,.nils])] [0,2] (sq [mo 4 0,oo 5 (.callM 32 0 [0] [.t 4]),oo 3 (.alloc [.nils,.nils]),⟨none,none,(.store 2 (.t 3) (.t 5))⟩] [0,2,3] (.seq (sq [mo 6 0,oo 7 (.callM 33 0 [0] [.t 6,ki 10])] [0,2,3,7] (.block 0 (sq [bn 9 .eql (.t 7) (ki 0),mo 8 9] [0,2,3,7,8] (.cond (.t 8) (.after (.ops [mo 10 0,oo 11 (.callM 34 0 [0] [.t 10]),fa 12 0 3,⟨none,none,(.store 1 (.t 12) (.t 11))⟩]) (kp [(2,0),(3,0)] [(0,0),(1,2),(5,2),(6,1),(4,1)] 1)) (sq [bn 14 .eql (.t 7) (ki 1),mo 13 14] [0,2,3,7,13] (.cond (.t 13) (.after (.drawF [(none,fa 15 1 3),(none,ld 16 15),(none,mo 17 0),(some [15,16],oo 18 (.callM 33 0 [0] [.t 17,ki 50])),(none,bn 19 .sub (.t 18) (ki 2)),(some [15,16],oo 20 (.bslice [(.int .i64 0)] 1 [(0,(.t 19))]))] [oo 21 (.append 2 1 8 (.t 16) (.t 20)),fa 22 1 3,⟨none,none,(.store 1 (.t 22) (.t 21))⟩]) (kp [(2,0),(3,0)] [(0,0),(1,2),(5,2),(3,1),(7,1)] 1)) (sq [bn 24 .eql (.t 7) (ki 2),mo 23 24] [0,2,3,23] (.cond (.t 23) (sq [fa 25 1 3,ld 26 25,le 27 26,bn 28 .gtr (.t 27) (ki 0)] [0,2,3,28] (.cond (.t 28) (.after (.drawF [(none,fa 29 1 3),(none,ld 30 29),(none,mo 31 0),(some [29,30,31],oo 32 (.bslice [(.int .i64 0)] 4 [(0,(ki (-2))),(1,(ki 0)),(2,(ki 40)),(3,(ki 41))])),(some [29,30],oo 33 (.callM 35 0 [0,6] [.t 31,.t 32]))] [oo 34 (.iaddr 1 (.t 30) (ki 0)),⟨none,none,(.store 1 (.t 34) (.t 33))⟩]) (kp [(2,0),(3,0)] [(0,0),(1,2),(5,2),(3,1),(4,1)] 1)) (.keep (kp [(2,0),(3,0)] [(0,0),(1,2),(5,2),(3,1),(4,1)] 1) .skip))) (.keep (kp [(2,0),(3,0)] [(0,0),(1,2),(5,2),(3,1),(4,1)] 1) .skip))))))))) (.trim [2,3] (.seq (.ops [ln 35 2 3,⟨none,none,(.store 2 (.t 2) (.t 35))⟩]) (.keep (kp [(2,0)] [(0,0),(1,2),(3,1),(4,1)] 1) .ret)))))),[.cell 2 (some 2)]⟩
abbrev g15_S:=Sys.on [] [((32,0),(1,g14_r)),((33,0),(1,g19_r)),((34,0),(1,g29_r)),((35,0),(2,g13_r))]
def spec_l05BentSpace_o9d (a1:List Bt) (a2:Int) (a3:Int):Option (List Bt×Int×Int×(List Int×List Int)):=(spec_l05DrawSpace_o9d a1 a2 a3).bind fun r1=>(spec_l00Src_pick_o30 r1.1 r1.2.1 r1.2.2.1 10).bind fun r2=>if r2.2.2.2=0 then (spec_l05Bent_o9d r2.1 r2.2.1 r2.2.2.1).bind fun r3=>some (r3.1,r3.2.1,r3.2.2.1,(r3.2.2.2,r1.2.2.2.2)) else if r2.2.2.2=1 then (spec_l00Src_pick_o30 r2.1 r2.2.1 r2.2.2.1 50).bind fun r4=>(appL 8 r1.2.2.2.2 ((lit [(IntKind.i64.wrap (r4.2.2.2 - 2))]:List Int))).bind fun l5=>some (r4.1,r4.2.1,r4.2.2.1,(r1.2.2.2.1,l5)) else if r2.2.2.2=2 then if ((r1.2.2.2.2.length:Nat):Int) > 0 then (spec_l00Src_among_o72 r2.1 r2.2.1 r2.2.2.1 ((lit [(-2),0,40,41]:List Int))).bind fun r6=>if r6.2.2.2.1.length=((lit [(-2),0,40,41]:List Int)).length then if 0≤(0:Int)∧(0:Int) < ((r1.2.2.2.2.length:Nat):Int) then (r1.2.2.2.2[((0:Int)).toNat]?).bind fun x7=>some (r6.1,r6.2.1,r6.2.2.1,(r1.2.2.2.1,(r1.2.2.2.2.set ((0:Int)).toNat r6.2.2.2.2))) else none else none else some (r2.1,r2.2.1,r2.2.2.1,r1.2.2.2) else some (r2.1,r2.2.1,r2.2.2.1,r1.2.2.2)
@[simp] def g15_O:(List Bt×Int×Int×(List Int×List Int))→TV×List Blk:=fun r=>((.agg [(ow 2 r.2.2.2.1.length),(ow 3 r.2.2.2.2.length)]),[(.live 3 [[(.vs (rows r.1)),(.int .i64 r.2.1),(.int .u64 r.2.2.1)]]),(.live 2 [[(ow 2 r.2.2.2.1.length),(ow 3 r.2.2.2.2.length)]]),(ob 1 r.2.2.2.1),(ob 1 r.2.2.2.2)])
abbrev g15_T:=List Bt×Int×Int
def g15_E (a:g15_T):List TV:=[(.ptr 0 0 0)]
def g15_B (a:g15_T):List Blk:=[(.live 3 [[(.vs (rows a.1)),(.int .i64 a.2.1),(.int .u64 a.2.2)]])]
theorem g15_run (a1:List Bt) (a2:Int) (a3:Int) :callFn (X g15_S) g15_tf (g15_E (a1,a2,a3)) (g15_B (a1,a2,a3))=(spec_l05BentSpace_o9d a1 a2 a3).map g15_O:=by
  rw [callFn_eq]
  simp (maxSteps:=2000000) (maxDischargeDepth:=8) -implicitDefEqProofs [g15_tf,spec_l05BentSpace_o9d,g15_E,g15_B,bslV_lit (α:=Int) (zs:=[(.int .i64 0)])] <;> (try simp only [map_to_bind,some_elim,g15_O])
def g15_r:MRule:=RmO g15_E g15_B (fun a=>spec_l05BentSpace_o9d a.1 a.2.1 a.2.2) g15_O
theorem g15_ok:MRuleOk Tryz.prog 16 1 g15_r:=ok_rmo (S:=g15_S) (tf:=g15_tf) (SysOk.on trivial ⟨g14_ok,g19_ok,g29_ok,g13_ok,trivial⟩) (trE_ok (ks:=[[6,2000000,0,0,0,0,3,15,16,0,3,15,16],[5,2000000,0,0,0,0,4,29,30,31,3,29,30]]) Tryz.func16 (by kernel_rfl)) (by rfl) (fun _=>by simp [g15_B]) (fun _=>by simp) fun a=>g15_run a.1 a.2.1 a.2.2
@[simp] theorem g15_app (y0 y1 y2):g15_r [(.ptr 0 0 0)] [(.live 3 [[(.vs (rows y0)),(.int .i64 y1),(.int .u64 y2)]])]=(spec_l05BentSpace_o9d y0 y1 y2).map g15_O:=by
  exact RmO_app (enc:=g15_E) (encB:=g15_B) (by intro a b h h2;simp [g15_E,g15_B,Prod.ext_iff] at h h2 ⊢;simp [h,h2]) (y0,y1,y2)
/-! spec.DrawEncodeSpace -/
def g21_tf:TFn:=⟨(sq [oo 2 (.alloc [.nils,.nils])] [0,2] (sq [mo 4 0,ca 5 15 [.t 4],mo 3 5] [2,3] (.seq (.ops [mo 6 3,oo 7 (.callM 16 0 [1] [.t 6]),⟨none,none,(.store 2 (.t 2) (.t 7))⟩]) (.keep (kp [(2,0)] [(0,2),(3,1),(4,1)] 0) .ret)))),[.cell 2 (some 2)]⟩
abbrev g21_S:=Sys.on [(15,g48_r)] [((16,0),(1,g15_r))]
def spec_DrawEncodeSpace (a_code:List Bt):Option ((List Int×List Int)):=(spec_l00From a_code).bind fun r1=>(spec_l05BentSpace_o9d r1.1 r1.2.1 r1.2.2).bind fun r2=>some r2.2.2.2
@[simp] def g21_O:((List Int×List Int))→TV×List Blk:=fun r=>((.agg [(ow 1 r.1.length),(ow 2 r.2.length)]),[(.live 2 [[(ow 1 r.1.length),(ow 2 r.2.length)]]),(ob 1 r.1),(ob 1 r.2)])
def g21_E (a:List Bt):List TV:=[(.vs (rows a))]
theorem g21_run (a_code:List Bt) :callFn (X g21_S) g21_tf (g21_E a_code) []=(spec_DrawEncodeSpace a_code).map g21_O:=by
  rw [callFn_eq]
  simp (maxSteps:=2000000) (maxDischargeDepth:=8) -implicitDefEqProofs [g21_tf,spec_DrawEncodeSpace,g21_E] <;> (try simp only [map_to_bind,some_elim,g21_O])
def g21_r:Rule:=RlO g21_E (fun a=>spec_DrawEncodeSpace a) g21_O
theorem g21_ok:RuleOk Tryz.prog 4 g21_r:=ok_rlo (S:=g21_S) (tf:=g21_tf) (SysOk.on ⟨g48_ok,trivial⟩ ⟨g15_ok,trivial⟩) (trE_ok (ks:=[]) Tryz.func4 (by kernel_rfl)) fun a=>g21_run a
@[simp] theorem g21_app (y0):g21_r [(.vs (rows y0))]=(spec_DrawEncodeSpace y0).map g21_O :=
  RlO_app (enc:=g21_E) (by intro a b h;simp [g21_E,Prod.ext_iff] at h ⊢;simp [h]) y0
/-! impl.within -/
def g58_tf:TFn:=⟨(sq [mk 6 (kb false)] [0,1,2] (.seq (.after (.ops [mo 7 0,mo 8 1,bn 9 .geq (.t 7) (.t 8),mo 10 9,⟨(some 11),(some (10,true)),(.mv (.t 0))⟩,⟨(some 12),(some (10,true)),(.mv (.t 2))⟩,⟨(some 13),(some (10,true)),(.bin .num .leq (.t 11) (.t 12))⟩,pk 14 (.t 10) (.t 13) (kb false),mo 6 14]) (kp [(6,0)] [] 0)) (.keep (kp [(6,0)] [] 0) .ret))),[.t 6]⟩
abbrev g58_S:=Sys.on [] []
def impl_within (a_n:Int) (a_low:Int) (a_high:Int):Option (Bool):=if a_n ≥ a_low then some ((decide (a_n≤a_high))) else some false
@[simp] def g58_O:Bool→TV×List Blk:=fun r=>((.bool r),[])
def g58_E (a:Int×Int×Int):List TV:=[(.int .i64 a.1),(.int .i64 a.2.1),(.int .i64 a.2.2)]
theorem g58_run (a_n:Int) (a_low:Int) (a_high:Int) :callFn (X g58_S) g58_tf (g58_E (a_n,a_low,a_high)) []=(impl_within a_n a_low a_high).map g58_O:=by
  rw [callFn_eq]
  simp (maxSteps:=2000000) (maxDischargeDepth:=8) -implicitDefEqProofs [g58_tf,impl_within,g58_E] <;> (try simp only [map_to_bind,some_elim,g58_O])
def g58_r:Rule:=RlO g58_E (fun a=>impl_within a.1 a.2.1 a.2.2) g58_O
theorem g58_ok:RuleOk Tryz.prog 28 g58_r:=ok_rlo (S:=g58_S) (tf:=g58_tf) (SysOk.on trivial trivial) (trE_ok (ks:=[]) Tryz.func28 (by kernel_rfl)) fun a=>g58_run a.1 a.2.1 a.2.2
@[simp] theorem g58_app (y0 y1 y2):g58_r [(.int .i64 y0),(.int .i64 y1),(.int .i64 y2)]=(impl_within y0 y1 y2).map g58_O :=
  RlO_app (enc:=g58_E) (by intro a b h;simp [g58_E,Prod.ext_iff] at h ⊢;simp [h]) (y0,y1,y2)
/-! impl.allWithin.1 -/
def g24_tf:TFn:=⟨(sq [mk 4 (kb false)] [0,1,2] (.seq (.ops [mo 5 0,ld 6 1,ld 7 2,ca 8 28 [.t 5,.t 6,.t 7],nt 9 8,mo 4 9]) (.keep (kp [(4,0)] [] 0) .ret))),[.t 4]⟩
abbrev g24_S:=Sys.on [(28,g58_r)] []
def impl_allWithin_c1 (a_n:Int) (a_p:Int) (a_p':Int):Option (Bool):=(impl_within a_n a_p a_p').bind fun r1=>some ((!r1))
@[simp] def g24_O:Bool→TV×List Blk:=fun r=>((.bool r),[])
def g24_E (a:Int×Int×Int):List TV:=[(.int .i64 a.1),(.vp [(.int .i64 a.2.1)]),(.vp [(.int .i64 a.2.2)])]
theorem g24_run (a_n:Int) (a_p:Int) (a_p':Int) :callFn (X g24_S) g24_tf (g24_E (a_n,a_p,a_p')) []=(impl_allWithin_c1 a_n a_p a_p').map g24_O:=by
  rw [callFn_eq]
  simp (maxSteps:=2000000) (maxDischargeDepth:=8) -implicitDefEqProofs [g24_tf,impl_allWithin_c1,g24_E] <;> (try simp only [map_to_bind,some_elim,g24_O])
def g24_r:Rule:=RlO g24_E (fun a=>impl_allWithin_c1 a.1 a.2.1 a.2.2) g24_O
theorem g24_ok:RuleOk Tryz.prog 60 g24_r:=ok_rlo (S:=g24_S) (tf:=g24_tf) (SysOk.on ⟨g58_ok,trivial⟩ trivial) (trE_ok (ks:=[]) Tryz.func60 (by kernel_rfl)) fun a=>g24_run a.1 a.2.1 a.2.2
@[simp] theorem g24_app (y0 y1 y2):g24_r [(.int .i64 y0),(.vp [(.int .i64 y1)]),(.vp [(.int .i64 y2)])]=(impl_allWithin_c1 y0 y1 y2).map g24_O :=
  RlO_app (enc:=g24_E) (by intro a b h;simp [g24_E,Prod.ext_iff] at h ⊢;simp [h]) (y0,y1,y2)
/-! slices.IndexFunc[[]int64,int64] -/
def g1l1_cb:TC:=(sq [bn 9 .lss (.t 8) (.t 7)] [0,1,7,8,9] (.seq (.cond (.t 9) .skip (.keep (kp [] [] 0) (.exit 0))) (.trim [0,1,7,8] (.seq (.block 1 (sq [mo 10 8,mo 5 10] [0,1,5,7,8] (sq [mo 11 1,mo 12 0,mo 13 5,ia 14 1 12 13,ld 15 14,oo 16 (.callv (.t 11) [.t 15])] [0,1,5,7,8,16] (.cond (.t 16) (.seq (.ops [mo 17 5,mo 4 17]) (.keep (kp [(4,0)] [] 0) .ret)) .skip)))) (.trim [0,1,7,8] (.after (.ops [bn 18 .add (.t 8) (ki 1),mo 8 18]) (kp [(0,0),(1,0),(7,0),(8,0)] [] 0)))))))
def g1l1_c:TC:=.loop [0,1,7,8] g1l1_cb
def g1_tf:TFn:=⟨(sq [mk 4 (ki 0)] [0,1] (.seq (sq [mo 6 0,le 7 6,mk 8 (ki 0)] [0,1,7,8] (.block 0 (.keep (kp [(0,0),(1,0),(7,0),(8,0)] [] 0) g1l1_c))) (.trim [] (.seq (.ops [mk 4 (ki (-1))]) (.keep (kp [(4,0)] [] 0) .ret))))),[.t 4]⟩
abbrev g1_S:=Sys.on [(60,g24_r)] []
@[reducible,simp] def g1l1_F:((Unit) ⊕ (Int))→Out:=(Sum.elim (fun t=>(.ext 0,[],[])) (fun t=>(.ret,[(4,(.int .i64 t))],[])))
def slices_IndexFunc_int64_int64__allWithin_c1_l1_b (v1:List Int) (v2:Int) (v3:Int) (v4:Int) (v5:Int):Option ((Int) ⊕ ((Unit) ⊕ (Int))):=if v5 < v4 then if 0≤v5 then (v1[(v5).toNat]?).bind fun x6=>(impl_allWithin_c1 x6 v2 v3).bind fun r7=>if r7=true then some (.inr (.inr v5)) else some (.inl ((IntKind.i64.wrap (v5+1)))) else none else some (.inr (.inl ()))
theorem g1l1_b_eq  (v1:List Int) (v2:Int) (v3:Int) (v4:Int) (v5:Int):X g1_S g1l1_cb (keepEnv [0,1,7,8] [(0,(.vs (rows v1))),(1,(.fn 60 [] [(.vp [(.int .i64 v2)]),(.vp [(.int .i64 v3)])])),(7,(.int .i64 v4)),(8,(.int .i64 v5))]) []=(slices_IndexFunc_int64_int64__allWithin_c1_l1_b v1 v2 v3 v4 v5).map (Sum.elim (fun s=>(TX.nrm,[(0,(.vs (rows v1))),(1,(.fn 60 [] [(.vp [(.int .i64 v2)]),(.vp [(.int .i64 v3)])])),(7,(.int .i64 v4)),(8,(.int .i64 s))],[])) g1l1_F):=by
  simp (maxSteps:=2000000) (maxDischargeDepth:=8) -implicitDefEqProofs [g1l1_cb,slices_IndexFunc_int64_int64__allWithin_c1_l1_b] <;> (try simp only [map_to_bind,some_elim,g1l1_F])
def slices_IndexFunc_int64_int64__allWithin_c1_l1 (v1:List Int) (v2:Int) (v3:Int) (v4:Int) (s:Int):Option ((Unit) ⊕ (Int)):=loopO (fun s=>slices_IndexFunc_int64_int64__allWithin_c1_l1_b v1 v2 v3 v4 s) s
@[simp] theorem g1l1_eq (y0 y1 y2 y3 y4):X g1_S g1l1_c [(0,(.vs (rows y0))),(1,(.fn 60 [] [(.vp [(.int .i64 y1)]),(.vp [(.int .i64 y2)])])),(7,(.int .i64 y3)),(8,(.int .i64 y4))] []=(slices_IndexFunc_int64_int64__allWithin_c1_l1 y0 y1 y2 y3 y4).map g1l1_F:=by
  exact loop_X _ _ _ _ (by intro r;first | (simp;done) | (rcases r with r | r <;> simp;done) | (rcases r with r | r | r <;> simp;done) | (rcases r with r | r | r | r <;> simp)) (fun s=>g1l1_b_eq  y0 y1 y2 y3 s) y4
def slices_IndexFunc_int64_int64__allWithin_c1 (a_s:List Int) (a_f:Int) (a_f':Int):Option (Int):=(slices_IndexFunc_int64_int64__allWithin_c1_l1 a_s a_f a_f' ((a_s.length:Int)) 0).bind fun r8=>Sum.elim (fun u9=>some ((-1))) (fun u10=>some u10) r8
@[simp] def g1_O:Int→TV×List Blk:=fun r=>((.int .i64 r),[])
def g1_E (a:List Int×Int×Int):List TV:=[(.vs (rows a.1)),(.fn 60 [] [(.vp [(.int .i64 a.2.1)]),(.vp [(.int .i64 a.2.2)])])]
theorem g1_run (a_s:List Int) (a_f:Int) (a_f':Int) :callFn (X g1_S) g1_tf (g1_E (a_s,a_f,a_f')) []=(slices_IndexFunc_int64_int64__allWithin_c1 a_s a_f a_f').map g1_O:=by
  rw [callFn_eq]
  simp (maxSteps:=2000000) (maxDischargeDepth:=8) -implicitDefEqProofs [g1_tf,slices_IndexFunc_int64_int64__allWithin_c1,g1_E] <;> (try simp only [map_to_bind,some_elim,g1_O])
def g1_r:Rule:=RlO g1_E (fun a=>slices_IndexFunc_int64_int64__allWithin_c1 a.1 a.2.1 a.2.2) g1_O
theorem g1_ok:RuleOk Tryz.prog 70 g1_r:=ok_rlo (S:=g1_S) (tf:=g1_tf) (SysOk.on ⟨g24_ok,trivial⟩ trivial) (trE_ok (ks:=[[0,1,7,8]]) Tryz.func70 (by kernel_rfl)) fun a=>g1_run a.1 a.2.1 a.2.2
@[simp] theorem g1_app (y0 y1 y2):g1_r [(.vs (rows y0)),(.fn 60 [] [(.vp [(.int .i64 y1)]),(.vp [(.int .i64 y2)])])]=(slices_IndexFunc_int64_int64__allWithin_c1 y0 y1 y2).map g1_O :=
  RlO_app (enc:=g1_E) (by intro a b h;simp [g1_E,Prod.ext_iff] at h ⊢;simp [h]) (y0,y1,y2)
/-! slices.ContainsFunc[[]int64,int64] -/
def g0_tf:TFn:=⟨(sq [mk 4 (kb false)] [0,1] (.seq (.ops [mo 5 0,mo 6 1,ca 7 70 [.t 5,.t 6],bn 8 .geq (.t 7) (ki 0),mo 4 8]) (.keep (kp [(4,0)] [] 0) .ret))),[.t 4]⟩
abbrev g0_S:=Sys.on [(70,g1_r)] []
def slices_ContainsFunc_int64_int64__allWithin_c1 (a_s:List Int) (a_f:Int) (a_f':Int):Option (Bool):=(slices_IndexFunc_int64_int64__allWithin_c1 a_s a_f a_f').bind fun r1=>some ((decide (r1 ≥ 0)))
@[simp] def g0_O:Bool→TV×List Blk:=fun r=>((.bool r),[])
def g0_E (a:List Int×Int×Int):List TV:=[(.vs (rows a.1)),(.fn 60 [] [(.vp [(.int .i64 a.2.1)]),(.vp [(.int .i64 a.2.2)])])]
theorem g0_run (a_s:List Int) (a_f:Int) (a_f':Int) :callFn (X g0_S) g0_tf (g0_E (a_s,a_f,a_f')) []=(slices_ContainsFunc_int64_int64__allWithin_c1 a_s a_f a_f').map g0_O:=by
  rw [callFn_eq]
  simp (maxSteps:=2000000) (maxDischargeDepth:=8) -implicitDefEqProofs [g0_tf,slices_ContainsFunc_int64_int64__allWithin_c1,g0_E] <;> (try simp only [map_to_bind,some_elim,g0_O])
def g0_r:Rule:=RlO g0_E (fun a=>slices_ContainsFunc_int64_int64__allWithin_c1 a.1 a.2.1 a.2.2) g0_O
theorem g0_ok:RuleOk Tryz.prog 59 g0_r:=ok_rlo (S:=g0_S) (tf:=g0_tf) (SysOk.on ⟨g1_ok,trivial⟩ trivial) (trE_ok (ks:=[]) Tryz.func59 (by kernel_rfl)) fun a=>g0_run a.1 a.2.1 a.2.2
@[simp] theorem g0_app (y0 y1 y2):g0_r [(.vs (rows y0)),(.fn 60 [] [(.vp [(.int .i64 y1)]),(.vp [(.int .i64 y2)])])]=(slices_ContainsFunc_int64_int64__allWithin_c1 y0 y1 y2).map g0_O :=
  RlO_app (enc:=g0_E) (by intro a b h;simp [g0_E,Prod.ext_iff] at h ⊢;simp [h]) (y0,y1,y2)
/-! impl.allWithin -/
def g38_tf:TFn:=⟨(sq [bx 4 1,bx 5 2,mk 6 (kb false)] [0,4,5] (.seq (.ops [mo 7 0,oo 8 (.mkfn 60 [] [.t 4,.t 5]),ca 9 59 [.t 7,.t 8],nt 10 9,mo 6 10]) (.keep (kp [(6,0)] [] 0) .ret))),[.t 6]⟩
abbrev g38_S:=Sys.on [(59,g0_r)] []
def impl_allWithin (a_list:List Int) (a_low:Int) (a_high:Int):Option (Bool):=(slices_ContainsFunc_int64_int64__allWithin_c1 a_list a_low a_high).bind fun r1=>some ((!r1))
@[simp] def g38_O:Bool→TV×List Blk:=fun r=>((.bool r),[])
def g38_E (a:List Int×Int×Int):List TV:=[(.vs (rows a.1)),(.int .i64 a.2.1),(.int .i64 a.2.2)]
theorem g38_run (a_list:List Int) (a_low:Int) (a_high:Int) :callFn (X g38_S) g38_tf (g38_E (a_list,a_low,a_high)) []=(impl_allWithin a_list a_low a_high).map g38_O:=by
  rw [callFn_eq]
  simp (maxSteps:=2000000) (maxDischargeDepth:=8) -implicitDefEqProofs [g38_tf,impl_allWithin,g38_E] <;> (try simp only [map_to_bind,some_elim,g38_O])
def g38_r:Rule:=RlO g38_E (fun a=>impl_allWithin a.1 a.2.1 a.2.2) g38_O
theorem g38_ok:RuleOk Tryz.prog 45 g38_r:=ok_rlo (S:=g38_S) (tf:=g38_tf) (SysOk.on ⟨g0_ok,trivial⟩ trivial) (trE_ok (ks:=[]) Tryz.func45 (by kernel_rfl)) fun a=>g38_run a.1 a.2.1 a.2.2
@[simp] theorem g38_app (y0 y1 y2):g38_r [(.vs (rows y0)),(.int .i64 y1),(.int .i64 y2)]=(impl_allWithin y0 y1 y2).map g38_O :=
  RlO_app (enc:=g38_E) (by intro a b h;simp [g38_E,Prod.ext_iff] at h ⊢;simp [h]) (y0,y1,y2)
/-! impl.product -/
def g49l1_cb:TC:=(sq [bn 9 .lss (.t 8) (.t 7)] [3,6,7,8,9] (.seq (.cond (.t 9) .skip (.keep (kp [(3,0)] [] 0) (.exit 0))) (.trim [3,6,7,8] (.seq (.block 1 (sq [ia 10 1 6 8,ld 11 10,mo 5 11] [3,5,6,7,8] (.ops [mo 12 3,mo 13 5,bn 14 .mul (.t 12) (.t 13),mo 3 14]))) (.trim [3,6,7,8] (.after (.ops [bn 15 .add (.t 8) (ki 1),mo 8 15]) (kp [(3,0),(6,0),(7,0),(8,0)] [] 0)))))))
def g49l1_c:TC:=.loop [3,6,7,8] g49l1_cb
def g49_tf:TFn:=⟨(sq [mk 2 (ki 0)] [0] (sq [mk 3 (ki 1)] [0,3] (.seq (sq [mo 6 0,le 7 6,mk 8 (ki 0)] [3,6,7,8] (.block 0 (.keep (kp [(3,0),(6,0),(7,0),(8,0)] [] 0) g49l1_c))) (.trim [3] (.seq (.ops [mo 16 3,mo 2 16]) (.keep (kp [(2,0)] [] 0) .ret)))))),[.t 2]⟩
abbrev g49_S:=Sys.on [] []
@[reducible,simp] def g49l1_F:Int→Out:=(fun t=>(.ext 0,[(3,(.int .i64 t))],[]))
def impl_product_l1_b (v2:List Int) (v3:Int) (v1:Int) (v4:Int):Option ((Int×Int) ⊕ (Int)):=if v4 < v3 then if 0≤v4 then (v2[(v4).toNat]?).bind fun x5=>some (.inl ((IntKind.i64.wrap (v1 * x5)),(IntKind.i64.wrap (v4+1)))) else none else some (.inr v1)
theorem g49l1_b_eq  (v2:List Int) (v3:Int) (v1:Int) (v4:Int):X g49_S g49l1_cb (keepEnv [3,6,7,8] [(3,(.int .i64 v1)),(6,(.vs (rows v2))),(7,(.int .i64 v3)),(8,(.int .i64 v4))]) []=(impl_product_l1_b v2 v3 v1 v4).map (Sum.elim (fun s=>(TX.nrm,[(3,(.int .i64 s.1)),(6,(.vs (rows v2))),(7,(.int .i64 v3)),(8,(.int .i64 s.2))],[])) g49l1_F):=by
  simp (maxSteps:=2000000) (maxDischargeDepth:=8) -implicitDefEqProofs [g49l1_cb,impl_product_l1_b] <;> (try simp only [map_to_bind,some_elim,g49l1_F])
def impl_product_l1 (v2:List Int) (v3:Int) (s:Int×Int):Option (Int):=loopO (fun s=>impl_product_l1_b v2 v3 s.1 s.2) s
@[simp] theorem g49l1_eq (y0 y1 y2 y3):X g49_S g49l1_c [(3,(.int .i64 y0)),(6,(.vs (rows y1))),(7,(.int .i64 y2)),(8,(.int .i64 y3))] []=(impl_product_l1 y1 y2 (y0,y3)).map g49l1_F:=by
  exact loop_X _ _ _ _ (by intro r;first | (simp;done) | (rcases r with r | r <;> simp;done) | (rcases r with r | r | r <;> simp;done) | (rcases r with r | r | r | r <;> simp)) (fun s=>g49l1_b_eq  y1 y2 s.1 s.2) (y0,y3)
def impl_product (a_list:List Int):Option (Int):=(impl_product_l1 a_list ((a_list.length:Int)) ((1,0))).bind fun r6=>some r6
@[simp] def g49_O:Int→TV×List Blk:=fun r=>((.int .i64 r),[])
def g49_E (a:List Int):List TV:=[(.vs (rows a))]
theorem g49_run (a_list:List Int) :callFn (X g49_S) g49_tf (g49_E a_list) []=(impl_product a_list).map g49_O:=by
  rw [callFn_eq]
  simp (maxSteps:=2000000) (maxDischargeDepth:=8) -implicitDefEqProofs [g49_tf,impl_product,g49_E] <;> (try simp only [map_to_bind,some_elim,g49_O])
def g49_r:Rule:=RlO g49_E (fun a=>impl_product a) g49_O
theorem g49_ok:RuleOk Tryz.prog 27 g49_r:=ok_rlo (S:=g49_S) (tf:=g49_tf) (SysOk.on trivial trivial) (trE_ok (ks:=[[3,6,7,8]]) Tryz.func27 (by kernel_rfl)) fun a=>g49_run a
@[simp] theorem g49_app (y0):g49_r [(.vs (rows y0))]=(impl_product y0).map g49_O :=
  RlO_app (enc:=g49_E) (by intro a b h;simp [g49_E,Prod.ext_iff] at h ⊢;simp [h]) y0
/-! impl.ValidDims -/
def g39_tf:TFn:=⟨(sq [mk 2 (kb false)] [0] (.seq (.after (.ops [mo 3 0,le 4 3,bn 5 .leq (.t 4) (ki 3),mo 6 5,⟨(some 7),(some (6,true)),(.mv (.t 0))⟩,⟨(some 8),(some (6,true)),(.call 45 [.t 7,ki 0,ki 40])⟩,pk 9 (.t 6) (.t 8) (kb false),mo 10 9,⟨(some 11),(some (10,true)),(.mv (.t 0))⟩,⟨(some 12),(some (10,true)),(.call 27 [.t 11])⟩,⟨(some 13),(some (10,true)),(.bin .num .leq (.t 12) (ki 600))⟩,pk 14 (.t 10) (.t 13) (kb false),mo 2 14]) (kp [(2,0)] [] 0)) (.keep (kp [(2,0)] [] 0) .ret))),[.t 2]⟩
abbrev g39_S:=Sys.on [(45,g38_r),(27,g49_r)] []
def impl_ValidDims (a_dims:List Int):Option (Bool):=if (a_dims.length:Int)≤3 then (impl_allWithin a_dims 0 40).bind fun r1=>if r1=true then (impl_product a_dims).bind fun r2=>some ((decide (r2≤600))) else some false else some false
@[simp] def g39_O:Bool→TV×List Blk:=fun r=>((.bool r),[])
def g39_E (a:List Int):List TV:=[(.vs (rows a))]
theorem g39_run (a_dims:List Int) :callFn (X g39_S) g39_tf (g39_E a_dims) []=(impl_ValidDims a_dims).map g39_O:=by
  rw [callFn_eq]
  simp (maxSteps:=2000000) (maxDischargeDepth:=8) -implicitDefEqProofs [g39_tf,impl_ValidDims,g39_E] <;> (try simp only [map_to_bind,some_elim,g39_O])
def g39_r:Rule:=RlO g39_E (fun a=>impl_ValidDims a) g39_O
theorem g39_ok:RuleOk Tryz.prog 23 g39_r:=ok_rlo (S:=g39_S) (tf:=g39_tf) (SysOk.on ⟨g38_ok,g49_ok,trivial⟩ trivial) (trE_ok (ks:=[]) Tryz.func23 (by kernel_rfl)) fun a=>g39_run a
@[simp] theorem g39_app (y0):g39_r [(.vs (rows y0))]=(impl_ValidDims y0).map g39_O :=
  RlO_app (enc:=g39_E) (by intro a b h;simp [g39_E,Prod.ext_iff] at h ⊢;simp [h]) y0
/-! impl.ValidSpace -/
def g34l1_cb:TC:=(sq [bn 22 .lss (.t 21) (.t 20)] [1,19,20,21,22] (.seq (.cond (.t 22) .skip (.keep (kp [] [] 0) (.exit 0))) (.trim [1,19,20,21] (.seq (.block 1 (sq [mo 23 21,ia 24 1 19 21,ld 25 24,mo 3 23,mo 4 25] [1,3,4,19,20,21] (sq [mo 26 4,bn 27 .neq (.t 26) (ki (-1)),mo 28 27,⟨(some 29),(some (28,true)),(.mv (.t 4))⟩,⟨(some 30),(some (28,true)),(.faddr 0 (.t 1))⟩,⟨(some 31),(some (28,true)),(.load none (.t 30))⟩,⟨(some 32),(some (28,true)),(.mv (.t 3))⟩,⟨(some 33),(some (28,true)),(.iaddr 1 (.t 31) (.t 32))⟩,⟨(some 34),(some (28,true)),(.load none (.t 33))⟩,⟨(some 35),(some (28,true)),(.call 28 [.t 29,.t 34,ki 40])⟩,⟨(some 36),(some (28,true)),(.un .not (.t 35))⟩,pk 37 (.t 28) (.t 36) (kb false)] [1,19,20,21,37] (.cond (.t 37) (.seq (.ops [mk 2 (kb false)]) (.keep (kp [(2,0)] [] 0) .ret)) (.keep (kp [(1,0),(19,0),(20,0),(21,0)] [(0,0)] 0) .skip))))) (.trim [1,19,20,21] (.after (.ops [bn 38 .add (.t 21) (ki 1),mo 21 38]) (kp [(1,0),(19,0),(20,0),(21,0)] [(0,0)] 0)))))))
def g34l1_c:TC:=.loop [1,19,20,21] g34l1_cb
def g34_tf:TFn:=⟨(sq [bx 1 0,mk 2 (kb false)] [1] (.seq (sq [fa 5 0 1,ld 6 5,ca 7 23 [.t 6],nt 8 7,mo 9 8,⟨(some 10),(some (9,false)),(.faddr 1 (.t 1))⟩,⟨(some 11),(some (9,false)),(.load none (.t 10))⟩,⟨(some 12),(some (9,false)),(.len false (.t 11))⟩,⟨(some 13),(some (9,false)),(.faddr 0 (.t 1))⟩,⟨(some 14),(some (9,false)),(.load none (.t 13))⟩,⟨(some 15),(some (9,false)),(.len false (.t 14))⟩,⟨(some 16),(some (9,false)),(.bin .num .neq (.t 12) (.t 15))⟩,pk 17 (.t 9) (kb true) (.t 16)] [1,17] (.cond (.t 17) (.seq (.ops [mk 2 (kb false)]) (.keep (kp [(2,0)] [] 0) .ret)) .skip)) (.trim [1] (.seq (sq [fa 18 1 1,ld 19 18,le 20 19,mk 21 (ki 0)] [1,19,20,21] (.block 0 (.keep (kp [(1,0),(19,0),(20,0),(21,0)] [(0,0)] 0) g34l1_c))) (.trim [] (.seq (.ops [mk 2 (kb true)]) (.keep (kp [(2,0)] [] 0) .ret))))))),[.t 2]⟩
abbrev g34_S:=Sys.on [(23,g39_r),(28,g58_r)] []
@[reducible,simp] def g34l1_F:((Unit) ⊕ (Bool))→Out:=(Sum.elim (fun t=>(.ext 0,[],[])) (fun t=>(.ret,[(2,(.bool t))],[])))
def impl_ValidSpace_l1_b (v2:List Int×List Int) (v3:List Int) (v4:Int) (v5:Int):Option ((Int) ⊕ ((Unit) ⊕ (Bool))):=if v5 < v4 then if 0≤v5 then (v3[(v5).toNat]?).bind fun x6=>if ¬(x6=(-1)) then if 0≤v5 then (v2.1[(v5).toNat]?).bind fun x7=>(impl_within x6 x7 40).bind fun r8=>if ¬(r8=true) then some (.inr (.inr false)) else some (.inl ((IntKind.i64.wrap (v5+1)))) else none else some (.inl ((IntKind.i64.wrap (v5+1)))) else none else some (.inr (.inl ()))
theorem g34l1_b_eq  (v2:List Int×List Int) (v3:List Int) (v4:Int) (v5:Int):X g34_S g34l1_cb (keepEnv [1,19,20,21] [(1,(.ptr 0 0 0)),(19,(.vs (rows v3))),(20,(.int .i64 v4)),(21,(.int .i64 v5))]) [(.live 2 [[(.vs (rows v2.1)),(.vs (rows v2.2))]])]=(impl_ValidSpace_l1_b v2 v3 v4 v5).map (Sum.elim (fun s=>(TX.nrm,[(1,(.ptr 0 0 0)),(19,(.vs (rows v3))),(20,(.int .i64 v4)),(21,(.int .i64 s))],[(.live 2 [[(.vs (rows v2.1)),(.vs (rows v2.2))]])])) g34l1_F):=by
  simp (maxSteps:=2000000) (maxDischargeDepth:=8) -implicitDefEqProofs [g34l1_cb,impl_ValidSpace_l1_b] <;> (try simp only [map_to_bind,some_elim,g34l1_F])
def impl_ValidSpace_l1 (v2:List Int×List Int) (v3:List Int) (v4:Int) (s:Int):Option ((Unit) ⊕ (Bool)):=loopO (fun s=>impl_ValidSpace_l1_b v2 v3 v4 s) s
@[simp] theorem g34l1_eq (y0 y1 y2 y3 y4):X g34_S g34l1_c [(1,(.ptr 0 0 0)),(19,(.vs (rows y2))),(20,(.int .i64 y3)),(21,(.int .i64 y4))] [(.live 2 [[(.vs (rows y0)),(.vs (rows y1))]])]=(impl_ValidSpace_l1 ((y0,y1)) y2 y3 y4).map g34l1_F:=by
  exact loop_X _ _ _ _ (by intro r;first | (simp;done) | (rcases r with r | r <;> simp;done) | (rcases r with r | r | r <;> simp;done) | (rcases r with r | r | r | r <;> simp)) (fun s=>g34l1_b_eq  ((y0,y1)) y2 y3 s) y4
def impl_ValidSpace (a_s:List Int×List Int):Option (Bool):=(impl_ValidDims a_s.1).bind fun r1=>if ¬(r1=true) then some false else if ¬((a_s.2.length:Int)=(a_s.1.length:Int)) then some false else (impl_ValidSpace_l1 a_s a_s.2 ((a_s.2.length:Int)) 0).bind fun r9=>Sum.elim (fun u10=>some true) (fun u11=>some u11) r9
@[simp] def g34_O:Bool→TV×List Blk:=fun r=>((.bool r),[])
def g34_E (a:(List Int×List Int)):List TV:=[(.agg [(.vs (rows a.1)),(.vs (rows a.2))])]
theorem g34_run (a_s:List Int×List Int) :callFn (X g34_S) g34_tf (g34_E a_s) []=(impl_ValidSpace a_s).map g34_O:=by
  rw [callFn_eq]
  simp (maxSteps:=2000000) (maxDischargeDepth:=8) -implicitDefEqProofs [g34_tf,impl_ValidSpace,g34_E] <;> (try simp only [map_to_bind,some_elim,g34_O])
def g34_r:Rule:=RlO g34_E (fun a=>impl_ValidSpace a) g34_O
theorem g34_ok:RuleOk Tryz.prog 17 g34_r:=ok_rlo (S:=g34_S) (tf:=g34_tf) (SysOk.on ⟨g39_ok,g58_ok,trivial⟩ trivial) (trE_ok (ks:=[[1,19,20,21]]) Tryz.func17 (by kernel_rfl)) fun a=>g34_run a
@[simp] theorem g34_app (y0 y1):g34_r [(.agg [(.vs (rows y0)),(.vs (rows y1))])]=(impl_ValidSpace ((y0,y1))).map g34_O :=
  RlO_app (enc:=g34_E) (by intro a b h;simp [g34_E,Prod.ext_iff] at h ⊢;simp [h]) ((y0,y1))
/-! impl.putBytes -/
def g43l1_cb:TC:=(sq [bn 12 .lss (.t 11) (.t 10)] [0,5,10,11,12] (.seq (.cond (.t 12) .skip (.keep (kp [(5,1)] [(0,1)] 0) (.exit 0))) (.trim [0,5,10,11] (.seq (.block 1 (sq [mo 13 11,mo 6 13] [0,5,6,10,11] (.ops [mo 14 5,mo 15 6,mo 16 0,mo 17 6,bn 18 .mul (ki 8) (.t 17),bn 19 .shr (.t 16) (.t 18),oo 20 (.conv (.toInt .u8) (.t 19)),ia 21 1 14 15,⟨none,none,(.store 1 (.t 21) (.t 20))⟩]))) (.trim [0,5,10,11] (.after (.ops [bn 22 .add (.t 11) (ki 1),mo 11 22]) (kp [(0,0),(5,1),(10,0),(11,0)] [(0,1)] 0)))))))
def g43l1_c:TC:=.loop [0,5,10,11] g43l1_cb
def g43_tf:TFn:=⟨(sq [mk 4 (.c (.str []))] [0,1] (sq [mo 7 1,oo 8 (.mkslice 1 [(.int .u8 0)] (.t 7) (.t 7)),mo 5 8] [0,5] (.seq (sq [mo 9 5,le 10 9,mk 11 (ki 0)] [0,5,10,11] (.block 0 (.keep (kp [(0,0),(5,1),(10,0),(11,0)] [(0,1)] 0) g43l1_c))) (.trim [5] (.seq (.ops [mo 23 5,oo 24 (.conv .toStr (.t 23)),mo 4 24]) (.keep (kp [(4,0)] [] 0) .ret)))))),[.t 4]⟩
abbrev g43_S:=Sys.on [] []
@[reducible,simp] def g43l1_F:(List Bt)→Out:=(fun t=>(.ext 0,[(5,(ow 0 t.length))],[(ob 1 t)]))
def impl_putBytes_l1_b (v2:Int) (v4:Int) (v3:List Bt) (v5:Int):Option ((List Bt×Int) ⊕ (List Bt)):=if v5 < v4 then if (IntKind.i64.wrap (8 * v5)) < 0 then none else if 0≤v5∧v5 < ((v3.length:Nat):Int) then (v3[(v5).toNat]?).bind fun x6=>some (.inl ((v3.set (v5).toNat (⟨UInt8.ofNat ((IntKind.u8.wrap ((shrV .i64 v2 ((IntKind.i64.wrap (8 * v5))))))).toNat⟩:Bt)),(IntKind.i64.wrap (v5+1)))) else none else some (.inr v3)
theorem g43l1_b_eq  (v2:Int) (v4:Int) (v3:List Bt) (v5:Int):X g43_S g43l1_cb (keepEnv [0,5,10,11] [(0,(.int .i64 v2)),(5,(ow 0 v3.length)),(10,(.int .i64 v4)),(11,(.int .i64 v5))]) [(ob 1 v3)]=(impl_putBytes_l1_b v2 v4 v3 v5).map (Sum.elim (fun s=>(TX.nrm,[(0,(.int .i64 v2)),(5,(ow 0 s.1.length)),(10,(.int .i64 v4)),(11,(.int .i64 s.2))],[(ob 1 s.1)])) g43l1_F):=by
  simp (maxSteps:=2000000) (maxDischargeDepth:=8) -implicitDefEqProofs [g43l1_cb,impl_putBytes_l1_b,mksliceV_typed (z:=((⟨0⟩:Bt):Bt)) (zs:=[(.int .u8 0)]) rfl (by decide) (by decide)] <;> (try simp only [map_to_bind,some_elim,g43l1_F])
def impl_putBytes_l1 (v2:Int) (v4:Int) (s:List Bt×Int):Option (List Bt):=loopO (fun s=>impl_putBytes_l1_b v2 v4 s.1 s.2) s
@[simp] theorem g43l1_eq (y0)(y1:List Bt)(y2 y3){n1:Nat}(h1:n1=y1.length):X g43_S g43l1_c [(0,(.int .i64 y0)),(5,(ow 0 n1)),(10,(.int .i64 y2)),(11,(.int .i64 y3))] [(ob 1 y1)]=(impl_putBytes_l1 y0 y2 (y1,y3)).map g43l1_F:=by
  subst h1
  exact loop_X _ _ _ _ (by intro r;first | (simp;done) | (rcases r with r | r <;> simp;done) | (rcases r with r | r | r <;> simp;done) | (rcases r with r | r | r | r <;> simp)) (fun s=>g43l1_b_eq  y0 y2 s.1 s.2) (y1,y3)
def impl_putBytes (a_n:Int) (a_size:Int):Option (Str):=(mkL 1 a_size a_size ((⟨0⟩:Bt):Bt)).bind fun l1=>(impl_putBytes_l1 a_n (((l1.length:Nat):Int)) ((l1,0))).bind fun r7=>some ((r7.map Bt.v))
@[simp] def g43_O:Str→TV×List Blk:=fun r=>((.str r),[])
def g43_E (a:Int×Int):List TV:=[(.int .i64 a.1),(.int .i64 a.2)]
theorem g43_run (a_n:Int) (a_size:Int) :callFn (X g43_S) g43_tf (g43_E (a_n,a_size)) []=(impl_putBytes a_n a_size).map g43_O:=by
  rw [callFn_eq]
  simp (maxSteps:=2000000) (maxDischargeDepth:=8) -implicitDefEqProofs [g43_tf,impl_putBytes,g43_E,mksliceV_typed (z:=((⟨0⟩:Bt):Bt)) (zs:=[(.int .u8 0)]) rfl (by decide) (by decide)] <;> (try simp only [map_to_bind,some_elim,g43_O])
def g43_r:Rule:=RlO g43_E (fun a=>impl_putBytes a.1 a.2) g43_O
theorem g43_ok:RuleOk Tryz.prog 36 g43_r:=ok_rlo (S:=g43_S) (tf:=g43_tf) (SysOk.on trivial trivial) (trE_ok (ks:=[[0,5,10,11]]) Tryz.func36 (by kernel_rfl)) fun a=>g43_run a.1 a.2
@[simp] theorem g43_app (y0 y1):g43_r [(.int .i64 y0),(.int .i64 y1)]=(impl_putBytes y0 y1).map g43_O :=
  RlO_app (enc:=g43_E) (by intro a b h;simp [g43_E,Prod.ext_iff] at h ⊢;simp [h]) (y0,y1)
end
end Go.Proofs.TM
