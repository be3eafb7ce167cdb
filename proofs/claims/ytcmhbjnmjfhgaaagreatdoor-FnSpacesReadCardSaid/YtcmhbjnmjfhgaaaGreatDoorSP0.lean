/- Functions of the program, as functions of their data: written by program. -/
import Derived.Test.YtcmhbjnmjfhgaaaGreatDoorTRec
import Derived.Test.YtcmhbjnmjfhgaaaGreatDoorTShelf
import Derived.Test.YtcmhbjnmjfhgaaaGreatDoorTLib
import Derived.Test.YtcmhbjnmjfhgaaaGreatDoorProg
import Derived.KernelRfl
namespace Go.Proofs.TM
open Go Go.Proofs
set_option linter.unusedVariables false
set_option linter.unusedSimpArgs false
set_option maxHeartbeats 1000000
attribute [-simp] Option.map_bind strV_some
attribute [simp] guardOn_bool sA_bslice Function.comp_def
noncomputable section

/-! spec.l00From -/
def g53_tf:TFn:=⟨(sq [mk 2 (.c .nilp)] [0] (.seq (.ops [mo 3 0,oo 4 (.build [.nils,(.int .i64 0),(.int .u64 0)] [(0,1,(.t 3))]),bx 5 4,mo 2 5]) (.keep (kp [(2,0)] [(0,0)] 0) .ret))),[.t 2]⟩
abbrev g53_S:=Sys.on [] []
def spec_l00From (a_code:List Bt):Option (List Bt×Int×Int):=some (a_code,0,0)
@[simp] def g53_O:(List Bt×Int×Int)→TV×List Blk:=fun r=>((.ptr 0 0 0),[(.live 3 [[(.vs (rows r.1)),(.int .i64 r.2.1),(.int .u64 r.2.2)]])])
def g53_E (a:List Bt):List TV:=[(.vs (rows a))]
theorem g53_run (a_code:List Bt) :callFn (X g53_S) g53_tf (g53_E a_code) []=(spec_l00From a_code).map g53_O:=by
  rw [callFn_eq]
  simp (maxSteps:=2000000) (maxDischargeDepth:=8) -implicitDefEqProofs [g53_tf,spec_l00From,g53_E] <;> (try simp only [map_to_bind,some_elim,g53_O])
def g53_r:Rule:=RlO g53_E (fun a=>spec_l00From a) g53_O
theorem g53_ok:RuleOk Tryz.prog 34 g53_r:=ok_rlo (S:=g53_S) (tf:=g53_tf) (SysOk.on trivial trivial) (trE_ok (ks:=[]) Tryz.func34 (by kernel_rfl)) fun a=>g53_run a
@[simp] theorem g53_app (y0):g53_r [(.vs (rows y0))]=(spec_l00From y0).map g53_O :=
  RlO_app (enc:=g53_E) (by intro a b h;simp [g53_E,Prod.ext_iff] at h ⊢;simp [h]) y0
/-! (*spec.l00Src).next -/
def g18p1_c:TC:=(sq [mo 25 0,nk 26 25,fa 27 1 26,ld 28 27,bn 29 .add (.t 28) (ki 1),nk 30 25,fa 31 1 30,⟨none,none,(.store 1 (.t 31) (.t 29))⟩] [0,3] (sq [mo 32 0,mo 33 0,nk 34 33,fa 35 2 34,ld 36 35,oo 37 (.bin .num .mul (.t 36) (.c (.int .u64 6364136223846793005))),mo 38 3,oo 39 (.conv (.toInt .u64) (.t 38)),bn 40 .add (.t 37) (.t 39),oo 41 (.bin .num .add (.t 40) (.c (.int .u64 1442695040888963407))),nk 42 32,fa 43 2 42,⟨none,none,(.store 1 (.t 43) (.t 41))⟩] [0,3] (.seq (.seq (.draw [([],mo 44 0),([0],nk 45 44),([0,1],fa 46 1 45),([0,1,2],ld 47 46),([],mo 48 0),([4],nk 49 48),([4,5],fa 50 0 49),([4,5,6],ld 51 50),([4,5,6,7],le 52 51)] [bn 53 .leq (.t 47) (.t 52)]) (.trim [0,3,53] (.cond (.t 53) (.seq (.ops [mo 54 3,mo 2 54]) (.keep (kp [(2,0)] [(0,0)] 1) .ret)) .skip))) (.trim [0] (.seq (.ops [mo 55 0,nk 56 55,fa 57 2 56,ld 58 57,oo 59 (.bin .num .shr (.t 58) (.c (.int .u64 40))),oo 60 (.bin .num .and (.t 59) (.c (.int .u64 255))),oo 61 (.conv (.toInt .i64) (.t 60)),mo 2 61]) (.keep (kp [(2,0)] [(0,0)] 1) .ret))))))
def g18_tf:TFn:=⟨(sq [mk 2 (ki 0)] [0] (sq [mk 3 (ki 0)] [0,3] (.seq (.seq (.draw [([],mo 4 0),([0],nk 5 4),([0,1],fa 6 1 5),([0,1,2],ld 7 6),([],mo 8 0),([4],nk 9 8),([4,5],fa 10 0 9),([4,5,6],ld 11 10),([4,5,6,7],le 12 11)] [bn 13 .lss (.t 7) (.t 12)]) (.trim [0,3,13] (.cond (.t 13) (.after (.draw [([],mo 14 0),([0],nk 15 14),([0,1],fa 16 0 15),([0,1,2],ld 17 16),([],mo 18 0),([4],nk 19 18),([4,5],fa 20 1 19),([4,5,6],ld 21 20)] [ia 22 1 17 21,ld 23 22,oo 24 (.conv (.toInt .i64) (.t 23)),mo 3 24]) (kp [(0,0),(3,0)] [(0,0)] 1)) (.keep (kp [(0,0),(3,0)] [(0,0)] 1) .skip)))) (.trim [0,3] g18p1_c)))),[.t 2]⟩
abbrev g18_S:=Sys.on [] []
@[reducible,simp] def g18p1_F:(List Bt×Int×Int×Int)→Out:=(fun t=>(.ret,[(2,(.int .i64 t.2.2.2))],[(.live 3 [[(.vs (rows t.1)),(.int .i64 t.2.1),(.int .u64 t.2.2.1)]])]))
def spec_l00Src_next_o9d_p1 (v2:List Bt) (v3:Int) (v4:Int) (v5:Int):Option (List Bt×Int×Int×Int):=if (IntKind.i64.wrap (v3+1))≤(v2.length:Int) then some ((v2,(IntKind.i64.wrap (v3+1)),(IntKind.u64.wrap ((IntKind.u64.wrap ((IntKind.u64.wrap (v4 * 6364136223846793005))+(IntKind.u64.wrap v5)))+1442695040888963407)),v5)) else some ((v2,(IntKind.i64.wrap (v3+1)),(IntKind.u64.wrap ((IntKind.u64.wrap ((IntKind.u64.wrap (v4 * 6364136223846793005))+(IntKind.u64.wrap v5)))+1442695040888963407)),(IntKind.i64.wrap ((bitV .and .u64 ((shrV .u64 ((IntKind.u64.wrap ((IntKind.u64.wrap ((IntKind.u64.wrap (v4 * 6364136223846793005))+(IntKind.u64.wrap v5)))+1442695040888963407))) 40)) 255)))))
@[simp] theorem g18p1_eq (y0 y1 y2 y3):X g18_S g18p1_c [(0,(.ptr 0 0 0)),(3,(.int .i64 y3))] [(.live 3 [[(.vs (rows y0)),(.int .i64 y1),(.int .u64 y2)]])]=(spec_l00Src_next_o9d_p1 y0 y1 y2 y3).map g18p1_F:=by
  simp (maxSteps:=2000000) (maxDischargeDepth:=8) -implicitDefEqProofs [g18p1_c,spec_l00Src_next_o9d_p1] <;> (try simp only [map_to_bind,some_elim,g18p1_F])
def spec_l00Src_next_o9d (a1:List Bt) (a2:Int) (a3:Int):Option (List Bt×Int×Int×Int):=if a2 < (a1.length:Int) then if 0≤a2 then (a1[(a2).toNat]?).bind fun x1=>(spec_l00Src_next_o9d_p1 a1 a2 a3 ((IntKind.i64.wrap ((x1.v.toNat:Int))))).bind fun r6=>some (r6.1,r6.2.1,r6.2.2.1,r6.2.2.2) else none else (spec_l00Src_next_o9d_p1 a1 a2 a3 0).bind fun r7=>some (r7.1,r7.2.1,r7.2.2.1,r7.2.2.2)
@[simp] def g18_O:(List Bt×Int×Int×Int)→TV×List Blk:=fun r=>((.int .i64 r.2.2.2),[(.live 3 [[(.vs (rows r.1)),(.int .i64 r.2.1),(.int .u64 r.2.2.1)]])])
abbrev g18_T:=List Bt×Int×Int
def g18_E (a:g18_T):List TV:=[(.ptr 0 0 0)]
def g18_B (a:g18_T):List Blk:=[(.live 3 [[(.vs (rows a.1)),(.int .i64 a.2.1),(.int .u64 a.2.2)]])]
theorem g18_run (a1:List Bt) (a2:Int) (a3:Int) :callFn (X g18_S) g18_tf (g18_E (a1,a2,a3)) (g18_B (a1,a2,a3))=(spec_l00Src_next_o9d a1 a2 a3).map g18_O:=by
  rw [callFn_eq]
  simp (maxSteps:=2000000) (maxDischargeDepth:=8) -implicitDefEqProofs [g18_tf,spec_l00Src_next_o9d,g18_E,g18_B] <;> (try simp only [map_to_bind,some_elim,g18_O])
def g18_r:MRule:=RmO g18_E g18_B (fun a=>spec_l00Src_next_o9d a.1 a.2.1 a.2.2) g18_O
theorem g18_ok:MRuleOk Tryz.prog 77 1 g18_r:=ok_rmo (S:=g18_S) (tf:=g18_tf) (SysOk.on trivial trivial) (trE_ok (ks:=[[9],[8],[9]]) Tryz.func77 (by kernel_rfl)) (by rfl) (fun _=>by simp [g18_B]) (fun _=>by simp) fun a=>g18_run a.1 a.2.1 a.2.2
@[simp] theorem g18_app (y0 y1 y2):g18_r [(.ptr 0 0 0)] [(.live 3 [[(.vs (rows y0)),(.int .i64 y1),(.int .u64 y2)]])]=(spec_l00Src_next_o9d y0 y1 y2).map g18_O:=by
  exact RmO_app (enc:=g18_E) (encB:=g18_B) (by intro a b h h2;simp [g18_E,g18_B,Prod.ext_iff] at h h2 ⊢;simp [h,h2]) (y0,y1,y2)
/-! (*spec.l00Src).pick -/
def g19_tf:TFn:=⟨(sq [mk 4 (ki 0)] [0,1] (.seq (sq [mo 6 1,bn 7 .leq (.t 6) (ki 1)] [0,1,7] (.cond (.t 7) (.seq (.ops [mk 4 (ki 0)]) (.keep (kp [(4,0)] [(0,0)] 1) .ret)) .skip)) (.trim [0,1] (sq [mo 8 0,oo 9 (.callM 77 0 [0] [.t 8]),mo 5 9] [0,1,5] (.seq (sq [mo 10 1,bn 11 .gtr (.t 10) (ki 200)] [0,1,5,11] (.cond (.t 11) (.after (.ops [mo 12 5,bn 13 .mul (.t 12) (ki 256),mo 14 0,oo 15 (.callM 77 0 [0] [.t 14]),bn 16 .add (.t 13) (.t 15),mo 5 16]) (kp [(1,0),(5,0)] [(0,0)] 1)) (.keep (kp [(1,0),(5,0)] [(0,0)] 1) .skip))) (.trim [1,5] (.seq (.ops [mo 17 5,mo 18 1,bn 19 .rem (.t 17) (.t 18),mo 4 19]) (.keep (kp [(4,0)] [(0,0)] 1) .ret)))))))),[.t 4]⟩
abbrev g19_S:=Sys.on [] [((77,0),(1,g18_r))]
def spec_l00Src_pick_o30 (a1:List Bt) (a2:Int) (a3:Int) (a4:Int):Option (List Bt×Int×Int×Int):=if a4≤1 then some (a1,a2,a3,0) else (spec_l00Src_next_o9d a1 a2 a3).bind fun r1=>if a4 > 200 then (spec_l00Src_next_o9d r1.1 r1.2.1 r1.2.2.1).bind fun r2=>if a4=0 then none else some (r2.1,r2.2.1,r2.2.2.1,(Int.tmod ((IntKind.i64.wrap ((IntKind.i64.wrap (r1.2.2.2 * 256))+r2.2.2.2))) a4)) else if a4=0 then none else some (r1.1,r1.2.1,r1.2.2.1,(Int.tmod r1.2.2.2 a4))
@[simp] def g19_O:(List Bt×Int×Int×Int)→TV×List Blk:=fun r=>((.int .i64 r.2.2.2),[(.live 3 [[(.vs (rows r.1)),(.int .i64 r.2.1),(.int .u64 r.2.2.1)]])])
abbrev g19_T:=List Bt×Int×Int×Int
def g19_E (a:g19_T):List TV:=[(.ptr 0 0 0),(.int .i64 a.2.2.2)]
def g19_B (a:g19_T):List Blk:=[(.live 3 [[(.vs (rows a.1)),(.int .i64 a.2.1),(.int .u64 a.2.2.1)]])]
theorem g19_run (a1:List Bt) (a2:Int) (a3:Int) (a4:Int) :callFn (X g19_S) g19_tf (g19_E (a1,a2,a3,a4)) (g19_B (a1,a2,a3,a4))=(spec_l00Src_pick_o30 a1 a2 a3 a4).map g19_O:=by
  rw [callFn_eq]
  simp (maxSteps:=2000000) (maxDischargeDepth:=8) -implicitDefEqProofs [g19_tf,spec_l00Src_pick_o30,g19_E,g19_B] <;> (try simp only [map_to_bind,some_elim,g19_O])
def g19_r:MRule:=RmO g19_E g19_B (fun a=>spec_l00Src_pick_o30 a.1 a.2.1 a.2.2.1 a.2.2.2) g19_O
theorem g19_ok:MRuleOk Tryz.prog 37 1 g19_r:=ok_rmo (S:=g19_S) (tf:=g19_tf) (SysOk.on trivial ⟨g18_ok,trivial⟩) (trE_ok (ks:=[]) Tryz.func37 (by kernel_rfl)) (by rfl) (fun _=>by simp [g19_B]) (fun _=>by simp) fun a=>g19_run a.1 a.2.1 a.2.2.1 a.2.2.2
@[simp] theorem g19_app (y0 y1 y2 y3):g19_r [(.ptr 0 0 0),(.int .i64 y3)] [(.live 3 [[(.vs (rows y0)),(.int .i64 y1),(.int .u64 y2)]])]=(spec_l00Src_pick_o30 y0 y1 y2 y3).map g19_O:=by
  exact RmO_app (enc:=g19_E) (encB:=g19_B) (by intro a b h h2;simp [g19_E,g19_B,Prod.ext_iff] at h h2 ⊢;simp [h,h2]) (y0,y1,y2,y3)
/-! (*spec.l00Src).among -/
def g13_tf:TFn:=⟨(sq [mk 4 (ki 0)] [0,1] (.seq (.ops [mo 5 1,mo 6 0,mo 7 1,le 8 7,oo 9 (.callM 37 0 [0] [.t 6,.t 8]),ia 10 1 5 9,ld 11 10,mo 4 11]) (.keep (kp [(4,0)] [(0,0),(1,0)] 2) .ret))),[.t 4]⟩
abbrev g13_S:=Sys.on [] [((37,0),(1,g19_r))]
def spec_l00Src_among_o72 (a1:List Bt) (a2:Int) (a3:Int) (a4:List Int):Option (List Bt×Int×Int×List Int×Int):=(spec_l00Src_pick_o30 a1 a2 a3 (((a4.length:Nat):Int))).bind fun r1=>if 0≤r1.2.2.2∧r1.2.2.2 < ((a4.length:Nat):Int) then (a4[(r1.2.2.2).toNat]?).bind fun x2=>some (r1.1,r1.2.1,r1.2.2.1,a4,x2) else none
@[simp] def g13_O:(List Bt×Int×Int×List Int×Int)→TV×List Blk:=fun r=>((.int .i64 r.2.2.2.2),[(.live 3 [[(.vs (rows r.1)),(.int .i64 r.2.1),(.int .u64 r.2.2.1)]]),(.live 1 (rows r.2.2.2.1))])
abbrev g13_T:=List Bt×Int×Int×List Int
def g13_E (a:g13_T):List TV:=[(.ptr 0 0 0),(.hs 1 0 a.2.2.2.length true)]
def g13_B (a:g13_T):List Blk:=[(.live 3 [[(.vs (rows a.1)),(.int .i64 a.2.1),(.int .u64 a.2.2.1)]]),(.live 1 (rows a.2.2.2))]
theorem g13_run (a1:List Bt) (a2:Int) (a3:Int) (a4:List Int) :callFn (X g13_S) g13_tf (g13_E (a1,a2,a3,a4)) (g13_B (a1,a2,a3,a4))=(spec_l00Src_among_o72 a1 a2 a3 a4).map g13_O:=by
  rw [callFn_eq]
  simp (maxSteps:=2000000) (maxDischargeDepth:=8) -implicitDefEqProofs [g13_tf,spec_l00Src_among_o72,g13_E,g13_B] <;> (try simp only [map_to_bind,some_elim,g13_O])
def g13_r:MRule:=RmO g13_E g13_B (fun a=>(spec_l00Src_among_o72 a.1 a.2.1 a.2.2.1 a.2.2.2).bind fun r=>if r.2.2.2.1.length=a.2.2.2.length then some (r.1,r.2.1,r.2.2.1,(fixLen a.2.2.2 r.2.2.2.1),r.2.2.2.2) else none) g13_O
theorem g13_ok0:MRuleOk Tryz.prog 88 2 (RmO g13_E g13_B (fun a=>spec_l00Src_among_o72 a.1 a.2.1 a.2.2.1 a.2.2.2) g13_O):=ok_rmo (S:=g13_S) (tf:=g13_tf) (SysOk.on trivial ⟨g19_ok,trivial⟩) (trE_ok (ks:=[]) Tryz.func88 (by kernel_rfl)) (by rfl) (fun _=>by simp [g13_B]) (fun _=>by simp) fun a=>g13_run a.1 a.2.1 a.2.2.1 a.2.2.2
theorem g13_ok:MRuleOk Tryz.prog 88 2 g13_r:=g13_ok0.weak fun a r hr=>by
  simp only [Option.bind_eq_some_iff] at hr
  obtain ⟨x,h1,h2⟩:=hr
  split at h2
  · rename_i hc
    simp only [Option.some.injEq] at h2
    rw [h1,← h2]
    simp [fixLen,hc]
  · cases h2
@[simp] theorem g13_app (y0 y1 y2)(y3:List Int){n1:Nat}(h1:n1=y3.length):g13_r [(.ptr 0 0 0),(.hs 1 0 n1 true)] [(.live 3 [[(.vs (rows y0)),(.int .i64 y1),(.int .u64 y2)]]),(.live 1 (rows y3))]=((spec_l00Src_among_o72 y0 y1 y2 y3).bind fun r=>if r.2.2.2.1.length=y3.length then some (r.1,r.2.1,r.2.2.1,(fixLen y3 r.2.2.2.1),r.2.2.2.2) else none).map g13_O:=by
  subst h1
  exact RmO_app (enc:=g13_E) (encB:=g13_B) (by intro a b h h2;simp [g13_E,g13_B,Prod.ext_iff] at h h2 ⊢;simp [h,h2]) (y0,y1,y2,y3)
/-! (*spec.l00Src).one -/
def g25_tf:TFn:=⟨(sq [mk 4 (kb false)] [0,1] (.seq (.ops [mo 5 0,mo 6 1,oo 7 (.callM 37 0 [0] [.t 5,.t 6]),bn 8 .eql (.t 7) (ki 0),mo 4 8]) (.keep (kp [(4,0)] [(0,0)] 1) .ret))),[.t 4]⟩
abbrev g25_S:=Sys.on [] [((37,0),(1,g19_r))]
def spec_l00Src_one_o30 (a1:List Bt) (a2:Int) (a3:Int) (a4:Int):Option (List Bt×Int×Int×Bool):=(spec_l00Src_pick_o30 a1 a2 a3 a4).bind fun r1=>some (r1.1,r1.2.1,r1.2.2.1,(decide (r1.2.2.2=0)))
@[simp] def g25_O:(List Bt×Int×Int×Bool)→TV×List Blk:=fun r=>((.bool r.2.2.2),[(.live 3 [[(.vs (rows r.1)),(.int .i64 r.2.1),(.int .u64 r.2.2.1)]])])
abbrev g25_T:=List Bt×Int×Int×Int
def g25_E (a:g25_T):List TV:=[(.ptr 0 0 0),(.int .i64 a.2.2.2)]
def g25_B (a:g25_T):List Blk:=[(.live 3 [[(.vs (rows a.1)),(.int .i64 a.2.1),(.int .u64 a.2.2.1)]])]
theorem g25_run (a1:List Bt) (a2:Int) (a3:Int) (a4:Int) :callFn (X g25_S) g25_tf (g25_E (a1,a2,a3,a4)) (g25_B (a1,a2,a3,a4))=(spec_l00Src_one_o30 a1 a2 a3 a4).map g25_O:=by
  rw [callFn_eq]
  simp (maxSteps:=2000000) (maxDischargeDepth:=8) -implicitDefEqProofs [g25_tf,spec_l00Src_one_o30,g25_E,g25_B] <;> (try simp only [map_to_bind,some_elim,g25_O])
def g25_r:MRule:=RmO g25_E g25_B (fun a=>spec_l00Src_one_o30 a.1 a.2.1 a.2.2.1 a.2.2.2) g25_O
theorem g25_ok:MRuleOk Tryz.prog 48 1 g25_r:=ok_rmo (S:=g25_S) (tf:=g25_tf) (SysOk.on trivial ⟨g19_ok,trivial⟩) (trE_ok (ks:=[]) Tryz.func48 (by kernel_rfl)) (by rfl) (fun _=>by simp [g25_B]) (fun _=>by simp) fun a=>g25_run a.1 a.2.1 a.2.2.1 a.2.2.2
@[simp] theorem g25_app (y0 y1 y2 y3):g25_r [(.ptr 0 0 0),(.int .i64 y3)] [(.live 3 [[(.vs (rows y0)),(.int .i64 y1),(.int .u64 y2)]])]=(spec_l00Src_one_o30 y0 y1 y2 y3).map g25_O:=by
  exact RmO_app (enc:=g25_E) (encB:=g25_B) (by intro a b h h2;simp [g25_E,g25_B,Prod.ext_iff] at h h2 ⊢;simp [h,h2]) (y0,y1,y2,y3)
/-! spec.l05Draw -/
def g32p2_c:TC:=(.after (.ops [mo 19 5,mo 20 6,oo 21 (.bslice [(.int .i64 0)] 1 [(0,(.t 20))]),oo 22 (.append 2 1 8 (.t 19) (.t 21)),mo 5 22]) (kp [(0,0),(1,0),(5,1)] [(0,0),(3,1)] 1))
def g32l1_cb:TC:=(.seq (sq [mo 8 1,bn 9 .gtr (.t 8) (ki 0)] [0,1,5,9] (.cond (.t 9) .skip (.keep (kp [(0,0),(5,1)] [(0,0),(1,1)] 1) (.exit 0)))) (.trim [0,1,5] (.seq (.block 1 (sq [mo 12 0,oo 13 (.callM 37 0 [0] [.t 12,ki 6]),bn 14 .add (ki 1) (.t 13),mo 6 14] [0,1,5,6] (.seq (sq [mo 15 0,oo 16 (.callM 48 0 [0] [.t 15,ki 8])] [0,1,5,6,16] (.cond (.t 16) (.after (.ops [mo 17 0,oo 18 (.callM 37 0 [0] [.t 17,ki 9]),mo 6 18]) (kp [(0,0),(1,0),(5,1),(6,0)] [(0,0),(1,1)] 1)) (.keep (kp [(0,0),(1,0),(5,1),(6,0)] [(0,0),(1,1)] 1) .skip))) (.trim [0,1,5,6] g32p2_c)))) (.trim [0,1,5] (.after (.ops [mo 10 1,bn 11 .sub (.t 10) (ki 1),mo 1 11]) (kp [(0,0),(1,0),(5,1)] [(0,0),(1,1)] 1))))))
def g32l1_c:TC:=.loop [0,1,5] g32l1_cb
def g32_tf:TFn:=⟨(sq [mk 4 (.c .nils)] [0,1] (sq [oo 7 (.bslice [(.int .i64 0)] 0 []),mo 5 7] [0,1,5] (.seq (.block 0 (.keep (kp [(0,0),(1,0),(5,1)] [(0,0),(1000,1)] 1) g32l1_c)) (.trim [0,5] (.seq (sq [mo 23 5,le 24 23,bn 25 .eql (.t 24) (ki 1),mo 26 25,⟨(some 27),(some (26,true)),(.mv (.t 0))⟩,⟨(some 28),(some (26,true)),(.callM 48 0 [0] [.t 27,ki 6])⟩,pk 29 (.t 26) (.t 28) (kb false)] [0,5,29] (.cond (.t 29) (.after (.ops [mo 30 5,mo 31 0,oo 32 (.bslice [(.int .i64 0)] 3 [(0,(ki 40)),(1,(ki 39)),(2,(ki 17))]),oo 33 (.callM 88 0 [0,2] [.t 31,.t 32]),oo 34 (.iaddr 1 (.t 30) (ki 0)),⟨none,none,(.store 1 (.t 34) (.t 33))⟩]) (kp [(5,1)] [(0,0),(1,1)] 1)) (.keep (kp [(5,1)] [(0,0),(1,1)] 1) .skip))) (.trim [5] (.seq (.ops [mo 35 5,mo 4 35]) (.keep (kp [(4,1)] [(0,0),(1,1)] 1) .ret)))))))),[.t 4]⟩
abbrev g32_S:=Sys.on [] [((37,0),(1,g19_r)),((48,0),(1,g25_r)),((88,0),(2,g13_r))]
@[reducible,simp] def g32p2_F:(List Bt×Int×Int×Int×List Int)→Out:=(fun t=>(.nrm,[(0,(.ptr 0 0 0)),(1,(.int .i64 t.2.2.2.1)),(5,(ow 1 t.2.2.2.2.length))],[(.live 3 [[(.vs (rows t.1)),(.int .i64 t.2.1),(.int .u64 t.2.2.1)]]),(ob 1 t.2.2.2.2)]))
def spec_l05Draw_o30_p2 (v9:List Bt) (v10:Int) (v11:Int) (v12:Int) (v13:List Int) (v14:Int):Option (List Bt×Int×Int×Int×List Int):=(appL 8 v13 ((lit [v14]:List Int))).bind fun l15=>some ((v9,v10,v11,v12,l15))
@[simp] theorem g32p2_eq (y0 y1 y2 y3)(y4:List Int)(y5){n1:Nat}(h1:n1=y4.length):X g32_S g32p2_c [(0,(.ptr 0 0 0)),(1,(.int .i64 y3)),(5,(ow 1 n1)),(6,(.int .i64 y5))] [(.live 3 [[(.vs (rows y0)),(.int .i64 y1),(.int .u64 y2)]]),(ob 1 y4)]=(spec_l05Draw_o30_p2 y0 y1 y2 y3 y4 y5).map g32p2_F:=by
  subst h1
  simp (maxSteps:=2000000) (maxDischargeDepth:=8) -implicitDefEqProofs [g32p2_c,spec_l05Draw_o30_p2,bslV_lit (α:=Int) (zs:=[(.int .i64 0)])] <;> (try simp only [map_to_bind,some_elim,g32p2_F])
@[reducible,simp] def g32l1_F:(List Bt×Int×Int×List Int)→Out:=(fun t=>(.ext 0,[(0,(.ptr 0 0 0)),(5,(ow 1 t.2.2.2.length))],[(.live 3 [[(.vs (rows t.1)),(.int .i64 t.2.1),(.int .u64 t.2.2.1)]]),(ob 1 t.2.2.2)]))
def spec_l05Draw_o30_l1_b (v1:List Bt) (v2:Int) (v3:Int) (v4:Int) (v5:List Int):Option ((List Bt×Int×Int×Int×List Int) ⊕ (List Bt×Int×Int×List Int)):=if v4 > 0 then (spec_l00Src_pick_o30 v1 v2 v3 6).bind fun r6=>(spec_l00Src_one_o30 r6.1 r6.2.1 r6.2.2.1 8).bind fun r7=>if r7.2.2.2=true then (spec_l00Src_pick_o30 r7.1 r7.2.1 r7.2.2.1 9).bind fun r8=>(spec_l05Draw_o30_p2 r8.1 r8.2.1 r8.2.2.1 v4 v5 r8.2.2.2).bind fun r16=>some (.inl (r16.1,r16.2.1,r16.2.2.1,(IntKind.i64.wrap (r16.2.2.2.1 - 1)),r16.2.2.2.2)) else (spec_l05Draw_o30_p2 r7.1 r7.2.1 r7.2.2.1 v4 v5 ((IntKind.i64.wrap (1+r6.2.2.2)))).bind fun r17=>some (.inl (r17.1,r17.2.1,r17.2.2.1,(IntKind.i64.wrap (r17.2.2.2.1 - 1)),r17.2.2.2.2)) else some (.inr (v1,v2,v3,v5))
theorem g32l1_b_eq  (v1:List Bt) (v2:Int) (v3:Int) (v4:Int) (v5:List Int):X g32_S g32l1_cb (keepEnv [0,1,5] [(0,(.ptr 0 0 0)),(1,(.int .i64 v4)),(5,(ow 1 v5.length))]) [(.live 3 [[(.vs (rows v1)),(.int .i64 v2),(.int .u64 v3)]]),(ob 1 v5)]=(spec_l05Draw_o30_l1_b v1 v2 v3 v4 v5).map (Sum.elim (fun s=>(TX.nrm,[(0,(.ptr 0 0 0)),(1,(.int .i64 s.2.2.2.1)),(5,(ow 1 s.2.2.2.2.length))],[(.live 3 [[(.vs (rows s.1)),(.int .i64 s.2.1),(.int .u64 s.2.2.1)]]),(ob 1 s.2.2.2.2)])) g32l1_F):=by
  simp (maxSteps:=2000000) (maxDischargeDepth:=8) -implicitDefEqProofs [g32l1_cb,spec_l05Draw_o30_l1_b,bslV_lit (α:=Int) (zs:=[(.int .i64 0)])] <;> (try simp only [map_to_bind,some_elim,g32l1_F])
def spec_l05Draw_o30_l1  (s:List Bt×Int×Int×Int×List Int):Option (List Bt×Int×Int×List Int):=loopO (fun s=>spec_l05Draw_o30_l1_b  s.1 s.2.1 s.2.2.1 s.2.2.2.1 s.2.2.2.2) s
@[simp] theorem g32l1_eq (y0 y1 y2 y3)(y4:List Int){n1:Nat}(h1:n1=y4.length):X g32_S g32l1_c [(0,(.ptr 0 0 0)),(1,(.int .i64 y3)),(5,(ow 1 n1))] [(.live 3 [[(.vs (rows y0)),(.int .i64 y1),(.int .u64 y2)]]),(ob 1 y4)]=(spec_l05Draw_o30_l1  (y0,y1,y2,y3,y4)).map g32l1_F:=by
  subst h1
  exact loop_X _ _ _ _ (by intro r;first | (simp;done) | (rcases r with r | r <;> simp;done) | (rcases r with r | r | r <;> simp;done) | (rcases r with r | r | r | r <;> simp)) (fun s=>g32l1_b_eq   s.1 s.2.1 s.2.2.1 s.2.2.2.1 s.2.2.2.2) (y0,y1,y2,y3,y4)
@[simp] theorem g32l1_eq_4 (y0 y1 y2 y3):X g32_S g32l1_c [(0,(.ptr 0 0 0)),(1,(.int .i64 y3)),(5,.es)] [(.live 3 [[(.vs (rows y0)),(.int .i64 y1),(.int .u64 y2)]]),.dead]=(spec_l05Draw_o30_l1  (y0,y1,y2,y3,([]:List Int))).map g32l1_F :=
  g32l1_eq  y0 y1 y2 y3 ([]:List Int) rfl
def spec_l05Draw_o30 (a1:List Bt) (a2:Int) (a3:Int) (a4:Int):Option (List Bt×Int×Int×List Int):=(spec_l05Draw_o30_l1 ((a1,a2,a3,a4,([]:List Int)))).bind fun r18=>if ((r18.2.2.2.length:Nat):Int)=1 then (spec_l00Src_one_o30 r18.1 r18.2.1 r18.2.2.1 6).bind fun r19=>if r19.2.2.2=true then (spec_l00Src_among_o72 r19.1 r19.2.1 r19.2.2.1 ((lit [40,39,17]:List Int))).bind fun r20=>if r20.2.2.2.1.length=((lit [40,39,17]:List Int)).length then if 0≤(0:Int)∧(0:Int) < ((r18.2.2.2.length:Nat):Int) then (r18.2.2.2[((0:Int)).toNat]?).bind fun x21=>some (r20.1,r20.2.1,r20.2.2.1,(r18.2.2.2.set ((0:Int)).toNat r20.2.2.2.2)) else none else none else some (r19.1,r19.2.1,r19.2.2.1,r18.2.2.2) else some (r18.1,r18.2.1,r18.2.2.1,r18.2.2.2)
@[simp] def g32_O:(List Bt×Int×Int×List Int)→TV×List Blk:=fun r=>((ow 1 r.2.2.2.length),[(.live 3 [[(.vs (rows r.1)),(.int .i64 r.2.1),(.int .u64 r.2.2.1)]]),(ob 1 r.2.2.2)])
abbrev g32_T:=List Bt×Int×Int×Int
def g32_E (a:g32_T):List TV:=[(.ptr 0 0 0),(.int .i64 a.2.2.2)]
def g32_B (a:g32_T):List Blk:=[(.live 3 [[(.vs (rows a.1)),(.int .i64 a.2.1),(.int .u64 a.2.2.1)]])]
theorem g32_run (a1:List Bt) (a2:Int) (a3:Int) (a4:Int) :callFn (X g32_S) g32_tf (g32_E (a1,a2,a3,a4)) (g32_B (a1,a2,a3,a4))=(spec_l05Draw_o30 a1 a2 a3 a4).map g32_O:=by
  rw [callFn_eq]
  simp (maxSteps:=2000000) (maxDischargeDepth:=8) -implicitDefEqProofs [g32_tf,spec_l05Draw_o30,g32_E,g32_B,bslV_lit (α:=Int) (zs:=[(.int .i64 0)])] <;> (try simp only [map_to_bind,some_elim,g32_O])
def g32_r:MRule:=RmO g32_E g32_B (fun a=>spec_l05Draw_o30 a.1 a.2.1 a.2.2.1 a.2.2.2) g32_O
theorem g32_ok:MRuleOk Tryz.prog 125 1 g32_r:=ok_rmo (S:=g32_S) (tf:=g32_tf) (SysOk.on trivial ⟨g19_ok,g25_ok,g13_ok,trivial⟩) (trE_ok (ks:=[[0,1,5]]) Tryz.func125 (by kernel_rfl)) (by rfl) (fun _=>by simp [g32_B]) (fun _=>by simp) fun a=>g32_run a.1 a.2.1 a.2.2.1 a.2.2.2
@[simp] theorem g32_app (y0 y1 y2 y3):g32_r [(.ptr 0 0 0),(.int .i64 y3)] [(.live 3 [[(.vs (rows y0)),(.int .i64 y1),(.int .u64 y2)]])]=(spec_l05Draw_o30 y0 y1 y2 y3).map g32_O:=by
  exact RmO_app (enc:=g32_E) (encB:=g32_B) (by intro a b h h2;simp [g32_E,g32_B,Prod.ext_iff] at h h2 ⊢;simp [h,h2]) (y0,y1,y2,y3)
/-! spec.l05DrawDims -/
def g20_tf:TFn:=⟨(sq [mk 2 (.c .nils)] [0] (sq [mo 4 0,oo 5 (.bslice [(.int .i64 0)] 8 [(0,(ki 1)),(1,(ki 1)),(2,(ki 2)),(3,(ki 2)),(4,(ki 2)),(5,(ki 3)),(6,(ki 3)),(7,(ki 0))]),oo 6 (.callM 88 0 [0,1] [.t 4,.t 5]),mo 3 6] [0,3] (.seq (.ops [mo 7 0,mo 8 3,oo 9 (.callM 125 0 [0] [.t 7,.t 8]),mo 2 9]) (.keep (kp [(2,1)] [(0,0),(2,1)] 1) .ret)))),[.t 2]⟩
abbrev g20_S:=Sys.on [] [((88,0),(2,g13_r)),((125,0),(1,g32_r))]
def spec_l05DrawDims_o9d (a1:List Bt) (a2:Int) (a3:Int):Option (List Bt×Int×Int×List Int):=(spec_l00Src_among_o72 a1 a2 a3 ((lit [1,1,2,2,2,3,3,0]:List Int))).bind fun r1=>if r1.2.2.2.1.length=((lit [1,1,2,2,2,3,3,0]:List Int)).length then (spec_l05Draw_o30 r1.1 r1.2.1 r1.2.2.1 r1.2.2.2.2).bind fun r2=>some (r2.1,r2.2.1,r2.2.2.1,r2.2.2.2) else none
@[simp] def g20_O:(List Bt×Int×Int×List Int)→TV×List Blk:=fun r=>((ow 1 r.2.2.2.length),[(.live 3 [[(.vs (rows r.1)),(.int .i64 r.2.1),(.int .u64 r.2.2.1)]]),(ob 1 r.2.2.2)])
abbrev g20_T:=List Bt×Int×Int
def g20_E (a:g20_T):List TV:=[(.ptr 0 0 0)]
def g20_B (a:g20_T):List Blk:=[(.live 3 [[(.vs (rows a.1)),(.int .i64 a.2.1),(.int .u64 a.2.2)]])]
theorem g20_run (a1:List Bt) (a2:Int) (a3:Int) :callFn (X g20_S) g20_tf (g20_E (a1,a2,a3)) (g20_B (a1,a2,a3))=(spec_l05DrawDims_o9d a1 a2 a3).map g20_O:=by
  rw [callFn_eq]
  simp (maxSteps:=2000000) (maxDischargeDepth:=8) -implicitDefEqProofs [g20_tf,spec_l05DrawDims_o9d,g20_E,g20_B,bslV_lit (α:=Int) (zs:=[(.int .i64 0)])] <;> (try simp only [map_to_bind,some_elim,g20_O])
def g20_r:MRule:=RmO g20_E g20_B (fun a=>spec_l05DrawDims_o9d a.1 a.2.1 a.2.2) g20_O
theorem g20_ok:MRuleOk Tryz.prog 76 1 g20_r:=ok_rmo (S:=g20_S) (tf:=g20_tf) (SysOk.on trivial ⟨g13_ok,g32_ok,trivial⟩) (trE_ok (ks:=[]) Tryz.func76 (by kernel_rfl)) (by rfl) (fun _=>by simp [g20_B]) (fun _=>by simp) fun a=>g20_run a.1 a.2.1 a.2.2
@[simp] theorem g20_app (y0 y1 y2):g20_r [(.ptr 0 0 0)] [(.live 3 [[(.vs (rows y0)),(.int .i64 y1),(.int .u64 y2)]])]=(spec_l05DrawDims_o9d y0 y1 y2).map g20_O:=by
  exact RmO_app (enc:=g20_E) (encB:=g20_B) (by intro a b h h2;simp [g20_E,g20_B,Prod.ext_iff] at h h2 ⊢;simp [h,h2]) (y0,y1,y2)
/-! spec.l05DrawSpace -/
def g14p2_c:TC:=(.after (.ops [fa 33 1 3,ld 34 33,mo 35 5,oo 36 (.bslice [(.int .i64 0)] 1 [(0,(.t 35))]),oo 37 (.append 2 1 8 (.t 34) (.t 36)),fa 38 1 3,⟨none,none,(.store 1 (.t 38) (.t 37))⟩]) (kp [(0,0),(2,0),(3,0),(4,0)] [(0,0),(1,2),(2,2),(3,1),(6,1)] 1))
def g14l1_cb:TC:=(.seq (sq [mo 9 4,fa 10 0 3,ld 11 10,le 12 11,bn 13 .lss (.t 9) (.t 12)] [0,2,3,4,13] (.cond (.t 13) .skip (.keep (kp [(2,0),(3,0)] [(0,0),(1,2),(2,2),(3,1),(4,1)] 1) (.exit 0)))) (.trim [0,2,3,4] (.seq (.block 1 (sq [fa 16 0 3,ld 17 16,mo 18 4,ia 19 1 17 18,ld 20 19,mo 5 20] [0,2,3,4,5] (.seq (sq [mo 21 0,oo 22 (.callM 37 0 [0] [.t 21,ki 4])] [0,2,3,4,5,22] (.block 2 (sq [bn 24 .eql (.t 22) (ki 0),mo 23 24] [0,2,3,4,5,22,23] (.cond (.t 23) (.after (.ops [mk 5 (ki (-1))]) (kp [(0,0),(2,0),(3,0),(4,0),(5,0)] [(0,0),(1,2),(2,2),(3,1),(4,1)] 1)) (sq [bn 26 .eql (.t 22) (ki 1),mo 25 26] [0,2,3,4,5,25] (.cond (.t 25) (.after (.ops [mo 27 5,mo 28 0,mo 29 5,bn 30 .sub (ki 41) (.t 29),oo 31 (.callM 37 0 [0] [.t 28,.t 30]),bn 32 .add (.t 27) (.t 31),mo 5 32]) (kp [(0,0),(2,0),(3,0),(4,0),(5,0)] [(0,0),(1,2),(2,2),(3,1),(4,1)] 1)) (.keep (kp [(0,0),(2,0),(3,0),(4,0),(5,0)] [(0,0),(1,2),(2,2),(3,1),(4,1)] 1) .skip))))))) (.trim [0,2,3,4,5] g14p2_c)))) (.trim [0,2,3,4] (.after (.ops [mo 14 4,bn 15 .add (.t 14) (ki 1),mo 4 15]) (kp [(0,0),(2,0),(3,0),(4,0)] [(0,0),(1,2),(2,2),(3,1),(4,1)] 1))))))
def g14l1_c:TC:=.loop [0,2,3,4] g14l1_cb
def g14_tf:TFn:=⟨(sq [oo 2 (.alloc [.nils,.nils])] [0,2] (sq [mo 6 0,oo 7 (.callM 76 0 [0] [.t 6]),oo 8 (.build [.nils,.nils] [(0,1,(.t 7))]),oo 3 (.alloc [.nils,.nils]),⟨none,none,(.store 2 (.t 3) (.t 8))⟩] [0,2,3] (.seq (sq [mk 4 (ki 0)] [0,2,3,4] (.block 0 (.keep (kp [(0,0),(2,0),(3,0),(4,0)] [(0,0),(1,2),(3,2),(2,1),(1000,1)] 1) g14l1_c))) (.trim [2,3] (.seq (.ops [ln 39 2 3,⟨none,none,(.store 2 (.t 2) (.t 39))⟩]) (.keep (kp [(2,0)] [(0,0),(1,2),(3,1),(4,1)] 1) .ret)))))),[.cell 2 (some 2)]⟩
abbrev g14_S:=Sys.on [] [((76,0),(1,g20_r)),((37,0),(1,g19_r))]
@[reducible,simp] def g14p2_F:(List Bt×Int×Int×(List Int×List Int)×Int)→Out:=(fun t=>(.nrm,[(0,(.ptr 0 0 0)),(2,(.ptr 1 0 0)),(3,(.ptr 2 0 0)),(4,(.int .i64 t.2.2.2.2))],[(.live 3 [[(.vs (rows t.1)),(.int .i64 t.2.1),(.int .u64 t.2.2.1)]]),(.live 2 [[.es,.es]]),(.live 2 [[(ow 3 t.2.2.2.1.1.length),(ow 4 t.2.2.2.1.2.length)]]),(ob 1 t.2.2.2.1.1),(ob 1 t.2.2.2.1.2)]))
def spec_l05DrawSpace_o9d_p2 (v10:List Bt) (v11:Int) (v12:Int) (v13:List Int×List Int) (v14:Int) (v15:Int):Option (List Bt×Int×Int×(List Int×List Int)×Int):=(appL 8 v13.2 ((lit [v15]:List Int))).bind fun l16=>some ((v10,v11,v12,(v13.1,l16),v14))
@[simp] theorem g14p2_eq (y0 y1 y2)(y3:List Int)(y4:List Int)(y5 y6){n1:Nat}(h1:n1=y3.length){n2:Nat}(h2:n2=y4.length):X g14_S g14p2_c [(0,(.ptr 0 0 0)),(2,(.ptr 1 0 0)),(3,(.ptr 2 0 0)),(4,(.int .i64 y5)),(5,(.int .i64 y6))] [(.live 3 [[(.vs (rows y0)),(.int .i64 y1),(.int .u64 y2)]]),(.live 2 [[.es,.es]]),(.live 2 [[(ow 3 n1),(ow 4 n2)]]),(ob 1 y3),(ob 1 y4)]=(spec_l05DrawSpace_o9d_p2 y0 y1 y2 ((y3,y4)) y5 y6).map g14p2_F:=by
  subst h1 h2
  simp (maxSteps:=2000000) (maxDischargeDepth:=8) -implicitDefEqProofs [g14p2_c,spec_l05DrawSpace_o9d_p2,bslV_lit (α:=Int) (zs:=[(.int .i64 0)])] <;> (try simp only [map_to_bind,some_elim,g14p2_F])
@[reducible,simp] def g14l1_F:(List Bt×Int×Int×(List Int×List Int))→Out:=(fun t=>(.ext 0,[(2,(.ptr 1 0 0)),(3,(.ptr 2 0 0))],[(.live 3 [[(.vs (rows t.1)),(.int .i64 t.2.1),(.int .u64 t.2.2.1)]]),(.live 2 [[.es,.es]]),(.live 2 [[(ow 3 t.2.2.2.1.length),(ow 4 t.2.2.2.2.length)]]),(ob 1 t.2.2.2.1),(ob 1 t.2.2.2.2)]))
def spec_l05DrawSpace_o9d_l1_b (v2:List Bt) (v3:Int) (v4:Int) (v5:List Int×List Int) (v6:Int):Option ((List Bt×Int×Int×(List Int×List Int)×Int) ⊕ (List Bt×Int×Int×(List Int×List Int))):=if v6 < ((v5.1.length:Nat):Int) then if 0≤v6∧v6 < ((v5.1.length:Nat):Int) then (v5.1[(v6).toNat]?).bind fun x7=>(spec_l00Src_pick_o30 v2 v3 v4 4).bind fun r8=>if r8.2.2.2=0 then (spec_l05DrawSpace_o9d_p2 r8.1 r8.2.1 r8.2.2.1 v5 v6 ((-1))).bind fun r17=>some (.inl (r17.1,r17.2.1,r17.2.2.1,r17.2.2.2.1,(IntKind.i64.wrap (r17.2.2.2.2+1)))) else if r8.2.2.2=1 then (spec_l00Src_pick_o30 r8.1 r8.2.1 r8.2.2.1 ((IntKind.i64.wrap (41 - x7)))).bind fun r9=>(spec_l05DrawSpace_o9d_p2 r9.1 r9.2.1 r9.2.2.1 v5 v6 ((IntKind.i64.wrap (x7+r9.2.2.2)))).bind fun r18=>some (.inl (r18.1,r18.2.1,r18.2.2.1,r18.2.2.2.1,(IntKind.i64.wrap (r18.2.2.2.2+1)))) else (spec_l05DrawSpace_o9d_p2 r8.1 r8.2.1 r8.2.2.1 v5 v6 x7).bind fun r19=>some (.inl (r19.1,r19.2.1,r19.2.2.1,r19.2.2.2.1,(IntKind.i64.wrap (r19.2.2.2.2+1)))) else none else some (.inr (v2,v3,v4,v5))
theorem g14l1_b_eq  (v2:List Bt) (v3:Int) (v4:Int) (v5:List Int×List Int) (v6:Int):X g14_S g14l1_cb (keepEnv [0,2,3,4] [(0,(.ptr 0 0 0)),(2,(.ptr 1 0 0)),(3,(.ptr 2 0 0)),(4,(.int .i64 v6))]) [(.live 3 [[(.vs (rows v2)),(.int .i64 v3),(.int .u64 v4)]]),(.live 2 [[.es,.es]]),(.live 2 [[(ow 3 v5.1.length),(ow 4 v5.2.length)]]),(ob 1 v5.1),(ob 1 v5.2)]=(spec_l05DrawSpace_o9d_l1_b v2 v3 v4 v5 v6).map (Sum.elim (fun s=>(TX.nrm,[(0,(.ptr 0 0 0)),(2,(.ptr 1 0 0)),(3,(.ptr 2 0 0)),(4,(.int .i64 s.2.2.2.2))],[(.live 3 [[(.vs (rows s.1)),(.int .i64 s.2.1),(.int .u64 s.2.2.1)]]),(.live 2 [[.es,.es]]),(.live 2 [[(ow 3 s.2.2.2.1.1.length),(ow 4 s.2.2.2.1.2.length)]]),(ob 1 s.2.2.2.1.1),(ob 1 s.2.2.2.1.2)])) g14l1_F):=by
  simp (maxSteps:=2000000) (maxDischargeDepth:=8) -implicitDefEqProofs [g14l1_cb,spec_l05DrawSpace_o9d_l1_b,bslV_lit (α:=Int) (zs:=[(.int .i64 0)])] <;> (try simp only [map_to_bind,some_elim,g14l1_F])
def spec_l05DrawSpace_o9d_l1  (s:List Bt×Int×Int×(List Int×List Int)×Int):Option (List Bt×Int×Int×(List Int×List Int)):=loopO (fun s=>spec_l05DrawSpace_o9d_l1_b  s.1 s.2.1 s.2.2.1 s.2.2.2.1 s.2.2.2.2) s
@[simp] theorem g14l1_eq (y0 y1 y2)(y3:List Int)(y4:List Int)(y5){n1:Nat}(h1:n1=y3.length){n2:Nat}(h2:n2=y4.length):X g14_S g14l1_c [(0,(.ptr 0 0 0)),(2,(.ptr 1 0 0)),(3,(.ptr 2 0 0)),(4,(.int .i64 y5))] [(.live 3 [[(.vs (rows y0)),(.int .i64 y1),(.int .u64 y2)]]),(.live 2 [[.es,.es]]),(.live 2 [[(ow 3 n1),(ow 4 n2)]]),(ob 1 y3),(ob 1 y4)]=(spec_l05DrawSpace_o9d_l1  (y0,y1,y2,(y3,y4),y5)).map g14l1_F:=by
  subst h1 h2
  exact loop_X _ _ _ _ (by intro r;first | (simp;done) | (rcases r with r | r <;> simp;done) | (rcases r with r | r | r <;> simp;done) | (rcases r with r | r | r | r <;> simp)) (fun s=>g14l1_b_eq   s.1 s.2.1 s.2.2.1 s.2.2.2.1 s.2.2.2.2) (y0,y1,y2,(y3,y4),y5)
@[simp] theorem g14l1_eq_3x1 (y0 y1 y2)(y3:List Int)(y4){n1:Nat}(h1:n1=y3.length):X g14_S g14l1_c [(0,(.ptr 0 0 0)),(2,(.ptr 1 0 0)),(3,(.ptr 2 0 0)),(4,(.int .i64 y4))] [(.live 3 [[(.vs (rows y0)),(.int .i64 y1),(.int .u64 y2)]]),(.live 2 [[.es,.es]]),(.live 2 [[(ow 3 n1),.es]]),(ob 1 y3),.dead]=(spec_l05DrawSpace_o9d_l1  (y0,y1,y2,(y3,([]:List Int)),y4)).map g14l1_F :=
  g14l1_eq  y0 y1 y2 y3 ([]:List Int) y4 h1 rfl
def spec_l05DrawSpace_o9d (a1:List Bt) (a2:Int) (a3:Int):Option (List Bt×Int×Int×(List Int×List Int)):=(spec_l05DrawDims_o9d a1 a2 a3).bind fun r1=>(spec_l05DrawSpace_o9d_l1 ((r1.1,r1.2.1,r1.2.2.1,(r1.2.2.2,([]:List Int)),0))).bind fun r20=>some (r20.1,r20.2.1,r20.2.2.1,r20.2.2.2)
@[simp] def g14_O:(List Bt×Int×Int×(List Int×List Int))→TV×List Blk:=fun r=>((.agg [(ow 2 r.2.2.2.1.length),(ow 3 r.2.2.2.2.length)]),[(.live 3 [[(.vs (rows r.1)),(.int .i64 r.2.1),(.int .u64 r.2.2.1)]]),(.live 2 [[(ow 2 r.2.2.2.1.length),(ow 3 r.2.2.2.2.length)]]),(ob 1 r.2.2.2.1),(ob 1 r.2.2.2.2)])
abbrev g14_T:=List Bt×Int×Int
def g14_E (a:g14_T):List TV:=[(.ptr 0 0 0)]
def g14_B (a:g14_T):List Blk:=[(.live 3 [[(.vs (rows a.1)),(.int .i64 a.2.1),(.int .u64 a.2.2)]])]
theorem g14_run (a1:List Bt) (a2:Int) (a3:Int) :callFn (X g14_S) g14_tf (g14_E (a1,a2,a3)) (g14_B (a1,a2,a3))=(spec_l05DrawSpace_o9d a1 a2 a3).map g14_O:=by
  rw [callFn_eq]
  simp (maxSteps:=2000000) (maxDischargeDepth:=8) -implicitDefEqProofs [g14_tf,spec_l05DrawSpace_o9d,g14_E,g14_B,bslV_lit (α:=Int) (zs:=[(.int .i64 0)])] <;> (try simp only [map_to_bind,some_elim,g14_O])
def g14_r:MRule:=RmO g14_E g14_B (fun a=>spec_l05DrawSpace_o9d a.1 a.2.1 a.2.2) g14_O
theorem g14_ok:MRuleOk Tryz.prog 36 1 g14_r:=ok_rmo (S:=g14_S) (tf:=g14_tf) (SysOk.on trivial ⟨g20_ok,g19_ok,trivial⟩) (trE_ok (ks:=[[0,2,3,4]]) Tryz.func36 (by kernel_rfl)) (by rfl) (fun _=>by simp [g14_B]) (fun _=>by simp) fun a=>g14_run a.1 a.2.1 a.2.2
@[simp] theorem g14_app (y0 y1 y2):g14_r [(.ptr 0 0 0)] [(.live 3 [[(.vs (rows y0)),(.int .i64 y1),(.int .u64 y2)]])]=(spec_l05DrawSpace_o9d y0 y1 y2).map g14_O:=by
  exact RmO_app (enc:=g14_E) (encB:=g14_B) (by intro a b h h2;simp [g14_E,g14_B,Prod.ext_iff] at h h2 ⊢;simp [h,h2]) (y0,y1,y2)
/-! spec.l00In -/
def g63_tf:TFn:=⟨(sq [mk 6 (kb false)] [0,1,2] (.seq (.after (.ops [mo 7 0,mo 8 1,bn 9 .geq (.t 7) (.t 8),mo 10 9,⟨(some 11),(some (10,true)),(.mv (.t 0))⟩,⟨(some 12),(some (10,true)),(.mv (.t 2))⟩,⟨(some 13),(some (10,true)),(.bin .num .leq (.t 11) (.t 12))⟩,pk 14 (.t 10) (.t 13) (kb false),mo 6 14]) (kp [(6,0)] [] 0)) (.keep (kp [(6,0)] [] 0) .ret))),[.t 6]⟩
abbrev g63_S:=Sys.on [] []
def spec_l00In (a_n:Int) (a_low:Int) (a_high:Int):Option (Bool):=if a_n ≥ a_low then some ((decide (a_n≤a_high))) else some false
@[simp] def g63_O:Bool→TV×List Blk:=fun r=>((.bool r),[])
def g63_E (a:Int×Int×Int):List TV:=[(.int .i64 a.1),(.int .i64 a.2.1),(.int .i64 a.2.2)]
theorem g63_run (a_n:Int) (a_low:Int) (a_high:Int) :callFn (X g63_S) g63_tf (g63_E (a_n,a_low,a_high)) []=(spec_l00In a_n a_low a_high).map g63_O:=by
  rw [callFn_eq]
  simp (maxSteps:=2000000) (maxDischargeDepth:=8) -implicitDefEqProofs [g63_tf,spec_l00In,g63_E] <;> (try simp only [map_to_bind,some_elim,g63_O])
def g63_r:Rule:=RlO g63_E (fun a=>spec_l00In a.1 a.2.1 a.2.2) g63_O
theorem g63_ok:RuleOk Tryz.prog 81 g63_r:=ok_rlo (S:=g63_S) (tf:=g63_tf) (SysOk.on trivial trivial) (trE_ok (ks:=[]) Tryz.func81 (by kernel_rfl)) fun a=>g63_run a.1 a.2.1 a.2.2
@[simp] theorem g63_app (y0 y1 y2):g63_r [(.int .i64 y0),(.int .i64 y1),(.int .i64 y2)]=(spec_l00In y0 y1 y2).map g63_O :=
  RlO_app (enc:=g63_E) (by intro a b h;simp [g63_E,Prod.ext_iff] at h ⊢;simp [h]) (y0,y1,y2)
/-! spec.l05Dims -/
def g54l1_cb:TC:=(.seq (sq [mo 8 4,mo 9 0,le 10 9,bn 11 .lss (.t 8) (.t 10)] [0,3,4,11] (.cond (.t 11) .skip (.keep (kp [(3,0)] [] 0) (.exit 0)))) (.trim [0,3,4] (.seq (.block 1 (.seq (sq [mo 14 0,mo 15 4,ia 16 1 14 15,ld 17 16,ca 18 81 [.t 17,ki 0,ki 40],nt 19 18] [0,3,4,19] (.cond (.t 19) (.seq (.ops [mk 2 (kb false)]) (.keep (kp [(2,0)] [] 0) .ret)) .skip)) (.trim [0,3,4] (.ops [mo 20 3,mo 21 0,mo 22 4,ia 23 1 21 22,ld 24 23,bn 25 .mul (.t 20) (.t 24),mo 3 25])))) (.trim [0,3,4] (.after (.ops [mo 12 4,bn 13 .add (.t 12) (ki 1),mo 4 13]) (kp [(0,0),(3,0),(4,0)] [] 0))))))
def g54l1_c:TC:=.loop [0,3,4] g54l1_cb
def g54_tf:TFn:=⟨(sq [mk 2 (kb false)] [0] (.seq (sq [mo 5 0,le 6 5,bn 7 .gtr (.t 6) (ki 3)] [0,7] (.cond (.t 7) (.seq (.ops [mk 2 (kb false)]) (.keep (kp [(2,0)] [] 0) .ret)) .skip)) (.trim [0] (sq [mk 3 (ki 1)] [0,3] (.seq (sq [mk 4 (ki 0)] [0,3,4] (.block 0 (.keep (kp [(0,0),(3,0),(4,0)] [] 0) g54l1_c))) (.trim [3] (.seq (.ops [mo 26 3,bn 27 .leq (.t 26) (ki 600),mo 2 27]) (.keep (kp [(2,0)] [] 0) .ret)))))))),[.t 2]⟩
abbrev g54_S:=Sys.on [(81,g63_r)] []
@[reducible,simp] def g54l1_F:((Int) ⊕ (Bool))→Out:=(Sum.elim (fun t=>(.ext 0,[(3,(.int .i64 t))],[])) (fun t=>(.ret,[(2,(.bool t))],[])))
def spec_l05Dims_l1_b (v1:List Int) (v2:Int) (v3:Int):Option ((Int×Int) ⊕ ((Int) ⊕ (Bool))):=if v3 < (v1.length:Int) then if 0≤v3 then (v1[(v3).toNat]?).bind fun x4=>(spec_l00In x4 0 40).bind fun r5=>if ¬(r5=true) then some (.inr (.inr false)) else if 0≤v3 then (v1[(v3).toNat]?).bind fun x6=>some (.inl ((IntKind.i64.wrap (v2 * x6)),(IntKind.i64.wrap (v3+1)))) else none else none else some (.inr (.inl v2))
theorem g54l1_b_eq  (v1:List Int) (v2:Int) (v3:Int):X g54_S g54l1_cb (keepEnv [0,3,4] [(0,(.vs (rows v1))),(3,(.int .i64 v2)),(4,(.int .i64 v3))]) []=(spec_l05Dims_l1_b v1 v2 v3).map (Sum.elim (fun s=>(TX.nrm,[(0,(.vs (rows v1))),(3,(.int .i64 s.1)),(4,(.int .i64 s.2))],[])) g54l1_F):=by
  simp (maxSteps:=2000000) (maxDischargeDepth:=8) -implicitDefEqProofs [g54l1_cb,spec_l05Dims_l1_b] <;> (try simp only [map_to_bind,some_elim,g54l1_F])
def spec_l05Dims_l1 (v1:List Int) (s:Int×Int):Option ((Int) ⊕ (Bool)):=loopO (fun s=>spec_l05Dims_l1_b v1 s.1 s.2) s
@[simp] theorem g54l1_eq (y0 y1 y2):X g54_S g54l1_c [(0,(.vs (rows y0))),(3,(.int .i64 y1)),(4,(.int .i64 y2))] []=(spec_l05Dims_l1 y0 (y1,y2)).map g54l1_F:=by
  exact loop_X _ _ _ _ (by intro r;first | (simp;done) | (rcases r with r | r <;> simp;done) | (rcases r with r | r | r <;> simp;done) | (rcases r with r | r | r | r <;> simp)) (fun s=>g54l1_b_eq  y0 s.1 s.2) (y1,y2)
def spec_l05Dims (a_dims:List Int):Option (Bool):=if (a_dims.length:Int) > 3 then some false else (spec_l05Dims_l1 a_dims ((1,0))).bind fun r7=>Sum.elim (fun u8=>some ((decide (u8≤600)))) (fun u9=>some u9) r7
@[simp] def g54_O:Bool→TV×List Blk:=fun r=>((.bool r),[])
def g54_E (a:List Int):List TV:=[(.vs (rows a))]
theorem g54_run (a_dims:List Int) :callFn (X g54_S) g54_tf (g54_E a_dims) []=(spec_l05Dims a_dims).map g54_O:=by
  rw [callFn_eq]
  simp (maxSteps:=2000000) (maxDischargeDepth:=8) -implicitDefEqProofs [g54_tf,spec_l05Dims,g54_E] <;> (try simp only [map_to_bind,some_elim,g54_O])
def g54_r:Rule:=RlO g54_E (fun a=>spec_l05Dims a) g54_O
theorem g54_ok:RuleOk Tryz.prog 53 g54_r:=ok_rlo (S:=g54_S) (tf:=g54_tf) (SysOk.on ⟨g63_ok,trivial⟩ trivial) (trE_ok (ks:=[[0,3,4]]) Tryz.func53 (by kernel_rfl)) fun a=>g54_run a
@[simp] theorem g54_app (y0):g54_r [(.vs (rows y0))]=(spec_l05Dims y0).map g54_O :=
  RlO_app (enc:=g54_E) (by intro a b h;simp [g54_E,Prod.ext_iff] at h ⊢;simp [h]) y0
/-! spec.l05Space -/
def g50l1_cb:TC:=(.seq (sq [mo 17 3,fa 18 1 1,ld 19 18,le 20 19,bn 21 .lss (.t 17) (.t 20)] [1,3,21] (.cond (.t 21) .skip (.keep (kp [] [] 0) (.exit 0)))) (.trim [1,3] (.seq (.block 1 (.seq (.draw [([],fa 24 1 1),([0],ld 25 24),([],mo 26 3),([0,1,2],ia 27 1 25 26),([0,1,2,3],ld 28 27),([0,1,2,3,4],bn 29 .neq (.t 28) (ki (-1))),([0,1,2,3,4,5],mo 30 29),([0,1,2,3,4,5,6],⟨(some 31),(some (30,true)),(.faddr 1 (.t 1))⟩),([0,1,2,3,4,5,6,7],⟨(some 32),(some (30,true)),(.load none (.t 31))⟩),([0,1,2,3,4,5,6],⟨(some 33),(some (30,true)),(.mv (.t 3))⟩),([0,1,2,3,4,5,6,7,8,9],⟨(some 34),(some (30,true)),(.iaddr 1 (.t 32) (.t 33))⟩),([0,1,2,3,4,5,6,7,8,9,10],⟨(some 35),(some (30,true)),(.load none (.t 34))⟩),([0,1,2,3,4,5,6],⟨(some 36),(some (30,true)),(.faddr 0 (.t 1))⟩),([0,1,2,3,4,5,6,12],⟨(some 37),(some (30,true)),(.load none (.t 36))⟩),([0,1,2,3,4,5,6],⟨(some 38),(some (30,true)),(.mv (.t 3))⟩),([0,1,2,3,4,5,6,12,13,14],⟨(some 39),(some (30,true)),(.iaddr 1 (.t 37) (.t 38))⟩),([0,1,2,3,4,5,6,12,13,14,15],⟨(some 40),(some (30,true)),(.load none (.t 39))⟩)] [⟨(some 41),(some (30,true)),(.call 81 [.t 35,.t 40,ki 40])⟩,⟨(some 42),(some (30,true)),(.un .not (.t 41))⟩,pk 43 (.t 30) (.t 42) (kb false)]) (.trim [1,3,43] (.cond (.t 43) (.seq (.ops [mk 2 (kb false)]) (.keep (kp [(2,0)] [] 0) .ret)) (.keep (kp [(1,0),(3,0)] [(0,0)] 0) .skip))))) (.trim [1,3] (.after (.ops [mo 22 3,bn 23 .add (.t 22) (ki 1),mo 3 23]) (kp [(1,0),(3,0)] [(0,0)] 0))))))
def g50l1_c:TC:=.loop [1,3] g50l1_cb
def g50_tf:TFn:=⟨(sq [bx 1 0,mk 2 (kb false)] [1] (.seq (sq [fa 4 0 1,ld 5 4,ca 6 53 [.t 5],nt 7 6,mo 8 7,⟨(some 9),(some (8,false)),(.faddr 1 (.t 1))⟩,⟨(some 10),(some (8,false)),(.load none (.t 9))⟩,⟨(some 11),(some (8,false)),(.len false (.t 10))⟩,⟨(some 12),(some (8,false)),(.faddr 0 (.t 1))⟩,⟨(some 13),(some (8,false)),(.load none (.t 12))⟩,⟨(some 14),(some (8,false)),(.len false (.t 13))⟩,⟨(some 15),(some (8,false)),(.bin .num .neq (.t 11) (.t 14))⟩,pk 16 (.t 8) (kb true) (.t 15)] [1,16] (.cond (.t 16) (.seq (.ops [mk 2 (kb false)]) (.keep (kp [(2,0)] [] 0) .ret)) .skip)) (.trim [1] (.seq (sq [mk 3 (ki 0)] [1,3] (.block 0 (.keep (kp [(1,0),(3,0)] [(0,0)] 0) g50l1_c))) (.trim [] (.seq (.ops [mk 2 (kb true)]) (.keep (kp [(2,0)] [] 0) .ret))))))),[.t 2]⟩
abbrev g50_S:=Sys.on [(53,g54_r),(81,g63_r)] []
@[reducible,simp] def g50l1_F:((Unit) ⊕ (Bool))→Out:=(Sum.elim (fun t=>(.ext 0,[],[])) (fun t=>(.ret,[(2,(.bool t))],[])))
def spec_l05Space_l1_b (v2:List Int×List Int) (v3:Int):Option ((Int) ⊕ ((Unit) ⊕ (Bool))):=if v3 < (v2.2.length:Int) then if 0≤v3 then (v2.2[(v3).toNat]?).bind fun x4=>if ¬(x4=(-1)) then if 0≤v3 then (v2.2[(v3).toNat]?).bind fun x5=>if 0≤v3 then (v2.1[(v3).toNat]?).bind fun x6=>(spec_l00In x5 x6 40).bind fun r7=>if ¬(r7=true) then some (.inr (.inr false)) else some (.inl ((IntKind.i64.wrap (v3+1)))) else none else none else some (.inl ((IntKind.i64.wrap (v3+1)))) else none else some (.inr (.inl ()))
theorem g50l1_b_eq  (v2:List Int×List Int) (v3:Int):X g50_S g50l1_cb (keepEnv [1,3] [(1,(.ptr 0 0 0)),(3,(.int .i64 v3))]) [(.live 2 [[(.vs (rows v2.1)),(.vs (rows v2.2))]])]=(spec_l05Space_l1_b v2 v3).map (Sum.elim (fun s=>(TX.nrm,[(1,(.ptr 0 0 0)),(3,(.int .i64 s))],[(.live 2 [[(.vs (rows v2.1)),(.vs (rows v2.2))]])])) g50l1_F):=by
  simp (maxSteps:=2000000) (maxDischargeDepth:=8) -implicitDefEqProofs [g50l1_cb,spec_l05Space_l1_b] <;> (try simp only [map_to_bind,some_elim,g50l1_F])
def spec_l05Space_l1 (v2:List Int×List Int) (s:Int):Option ((Unit) ⊕ (Bool)):=loopO (fun s=>spec_l05Space_l1_b v2 s) s
@[simp] theorem g50l1_eq (y0 y1 y2):X g50_S g50l1_c [(1,(.ptr 0 0 0)),(3,(.int .i64 y2))] [(.live 2 [[(.vs (rows y0)),(.vs (rows y1))]])]=(spec_l05Space_l1 ((y0,y1)) y2).map g50l1_F:=by
  exact loop_X _ _ _ _ (by intro r;first | (simp;done) | (rcases r with r | r <;> simp;done) | (rcases r with r | r | r <;> simp;done) | (rcases r with r | r | r | r <;> simp)) (fun s=>g50l1_b_eq  ((y0,y1)) s) y2
def spec_l05Space (a_s:List Int×List Int):Option (Bool):=(spec_l05Dims a_s.1).bind fun r1=>if ¬(r1=true) then some false else if ¬((a_s.2.length:Int)=(a_s.1.length:Int)) then some false else (spec_l05Space_l1 a_s 0).bind fun r8=>Sum.elim (fun u9=>some true) (fun u10=>some u10) r8
@[simp] def g50_O:Bool→TV×List Blk:=fun r=>((.bool r),[])
def g50_E (a:(List Int×List Int)):List TV:=[(.agg [(.vs (rows a.1)),(.vs (rows a.2))])]
theorem g50_run (a_s:List Int×List Int) :callFn (X g50_S) g50_tf (g50_E a_s) []=(spec_l05Space a_s).map g50_O:=by
  rw [callFn_eq]
  simp (maxSteps:=2000000) (maxDischargeDepth:=8) -implicitDefEqProofs [g50_tf,spec_l05Space,g50_E] <;> (try simp only [map_to_bind,some_elim,g50_O])
def g50_r:Rule:=RlO g50_E (fun a=>spec_l05Space a) g50_O
theorem g50_ok:RuleOk Tryz.prog 41 g50_r:=ok_rlo (S:=g50_S) (tf:=g50_tf) (SysOk.on ⟨g54_ok,g63_ok,trivial⟩ trivial) (trE_ok (ks:=[[1,3],[17]]) Tryz.func41 (by kernel_rfl)) fun a=>g50_run a
@[simp] theorem g50_app (y0 y1):g50_r [(.agg [(.vs (rows y0)),(.vs (rows y1))])]=(spec_l05Space ((y0,y1))).map g50_O :=
  RlO_app (enc:=g50_E) (by intro a b h;simp [g50_E,Prod.ext_iff] at h ⊢;simp [h]) ((y0,y1))
/-! spec.l01Bytes -/
def g51l1_cb:TC:=(.seq (sq [mo 8 6,mo 9 1,bn 10 .lss (.t 8) (.t 9)] [0,1,5,6,10] (.cond (.t 10) .skip (.keep (kp [(5,1)] [(0,1)] 0) (.exit 0)))) (.trim [0,1,5,6] (.seq (.block 1 (.ops [mo 13 5,mo 14 0,mo 15 6,oo 16 (.conv (.toInt .u64) (.t 15)),oo 17 (.bin .num .mul (.c (.int .u64 8)) (.t 16)),bn 18 .shr (.t 14) (.t 17),bn 19 .and (.t 18) (ki 255),oo 20 (.conv (.toInt .u8) (.t 19)),oo 21 (.bslice [(.int .u8 0)] 1 [(0,(.t 20))]),oo 22 (.append 5 1 1 (.t 13) (.t 21)),mo 5 22])) (.trim [0,1,5,6] (.after (.ops [mo 11 6,bn 12 .add (.t 11) (ki 1),mo 6 12]) (kp [(0,0),(1,0),(5,1),(6,0)] [(2,1)] 0))))))
def g51l1_c:TC:=.loop [0,1,5,6] g51l1_cb
def g51_tf:TFn:=⟨(sq [mk 4 (.c (.str []))] [0,1] (sq [oo 7 (.bslice [(.int .u8 0)] 0 []),mo 5 7] [0,1,5] (.seq (sq [mk 6 (ki 0)] [0,1,5,6] (.block 0 (.keep (kp [(0,0),(1,0),(5,1),(6,0)] [(1000,1)] 0) g51l1_c))) (.trim [5] (.seq (.ops [mo 23 5,oo 24 (.conv .toStr (.t 23)),mo 4 24]) (.keep (kp [(4,0)] [] 0) .ret)))))),[.t 4]⟩
abbrev g51_S:=Sys.on [] []
@[reducible,simp] def g51l1_F:(List Bt)→Out:=(fun t=>(.ext 0,[(5,(ow 0 t.length))],[(ob 1 t)]))
def spec_l01Bytes_l1_b (v1:Int) (v2:Int) (v3:List Bt) (v4:Int):Option ((List Bt×Int) ⊕ (List Bt)):=if v4 < v2 then if (IntKind.u64.wrap (8 * ((IntKind.u64.wrap v4)))) < 0 then none else (appL 1 v3 ((lit [(⟨UInt8.ofNat ((IntKind.u8.wrap ((bitV .and .i64 ((shrV .i64 v1 ((IntKind.u64.wrap (8 * ((IntKind.u64.wrap v4))))))) 255)))).toNat⟩:Bt)]:List Bt))).bind fun l5=>some (.inl (l5,(IntKind.i64.wrap (v4+1)))) else some (.inr v3)
theorem g51l1_b_eq  (v1:Int) (v2:Int) (v3:List Bt) (v4:Int):X g51_S g51l1_cb (keepEnv [0,1,5,6] [(0,(.int .i64 v1)),(1,(.int .i64 v2)),(5,(ow 0 v3.length)),(6,(.int .i64 v4))]) [(ob 1 v3)]=(spec_l01Bytes_l1_b v1 v2 v3 v4).map (Sum.elim (fun s=>(TX.nrm,[(0,(.int .i64 v1)),(1,(.int .i64 v2)),(5,(ow 0 s.1.length)),(6,(.int .i64 s.2))],[(ob 1 s.1)])) g51l1_F):=by
  simp (maxSteps:=2000000) (maxDischargeDepth:=8) -implicitDefEqProofs [g51l1_cb,spec_l01Bytes_l1_b,bslV_lit (α:=Bt) (zs:=[(.int .u8 0)])] <;> (try simp only [map_to_bind,some_elim,g51l1_F])
def spec_l01Bytes_l1 (v1:Int) (v2:Int) (s:List Bt×Int):Option (List Bt):=loopO (fun s=>spec_l01Bytes_l1_b v1 v2 s.1 s.2) s
@[simp] theorem g51l1_eq (y0 y1)(y2:List Bt)(y3){n1:Nat}(h1:n1=y2.length):X g51_S g51l1_c [(0,(.int .i64 y0)),(1,(.int .i64 y1)),(5,(ow 0 n1)),(6,(.int .i64 y3))] [(ob 1 y2)]=(spec_l01Bytes_l1 y0 y1 (y2,y3)).map g51l1_F:=by
  subst h1
  exact loop_X _ _ _ _ (by intro r;first | (simp;done) | (rcases r with r | r <;> simp;done) | (rcases r with r | r | r <;> simp;done) | (rcases r with r | r | r | r <;> simp)) (fun s=>g51l1_b_eq  y0 y1 s.1 s.2) (y2,y3)
@[simp] theorem g51l1_eq_2 (y0 y1 y2):X g51_S g51l1_c [(0,(.int .i64 y0)),(1,(.int .i64 y1)),(5,.es),(6,(.int .i64 y2))] [.dead]=(spec_l01Bytes_l1 y0 y1 (([]:List Bt),y2)).map g51l1_F :=
  g51l1_eq  y0 y1 ([]:List Bt) y2 rfl
def spec_l01Bytes (a_n:Int) (a_size:Int):Option (Str):=(spec_l01Bytes_l1 a_n a_size ((([]:List Bt),0))).bind fun r6=>some ((r6.map Bt.v))
@[simp] def g51_O:Str→TV×List Blk:=fun r=>((.str r),[])
def g51_E (a:Int×Int):List TV:=[(.int .i64 a.1),(.int .i64 a.2)]
theorem g51_run (a_n:Int) (a_size:Int) :callFn (X g51_S) g51_tf (g51_E (a_n,a_size)) []=(spec_l01Bytes a_n a_size).map g51_O:=by
  rw [callFn_eq]
  simp (maxSteps:=2000000) (maxDischargeDepth:=8) -implicitDefEqProofs [g51_tf,spec_l01Bytes,g51_E,bslV_lit (α:=Bt) (zs:=[(.int .u8 0)])] <;> (try simp only [map_to_bind,some_elim,g51_O])
def g51_r:Rule:=RlO g51_E (fun a=>spec_l01Bytes a.1 a.2) g51_O
theorem g51_ok:RuleOk Tryz.prog 124 g51_r:=ok_rlo (S:=g51_S) (tf:=g51_tf) (SysOk.on trivial trivial) (trE_ok (ks:=[[0,1,5,6]]) Tryz.func124 (by kernel_rfl)) fun a=>g51_run a.1 a.2
@[simp] theorem g51_app (y0 y1):g51_r [(.int .i64 y0),(.int .i64 y1)]=(spec_l01Bytes y0 y1).map g51_O :=
  RlO_app (enc:=g51_E) (by intro a b h;simp [g51_E,Prod.ext_iff] at h ⊢;simp [h]) (y0,y1)
/-! spec.l01PutUint -/
def g40p1_c:TC:=(.seq (.ops [mo 24 0,mo 25 1,ca 26 124 [.t 24,.t 25],mo 4 26]) (.keep (kp [(4,0)] [] 0) .ret))
def g40_tf:TFn:=⟨(sq [mk 4 (.c (.str []))] [0,1] (.seq (sq [mo 5 1,ca 6 81 [.t 5,ki 1,ki 8],nt 7 6,mo 8 7,⟨(some 9),(some (8,false)),(.mv (.t 0))⟩,⟨(some 10),(some (8,false)),(.bin .num .lss (.t 9) (ki 0))⟩,pk 11 (.t 8) (kb true) (.t 10),mo 12 11,⟨(some 13),(some (12,false)),(.mv (.t 1))⟩,⟨(some 14),(some (12,false)),(.bin .num .lss (.t 13) (ki 8))⟩,⟨(some 15),(some (12,false)),(.mv (.t 14))⟩,⟨(some 16),(some (15,true)),(.mv (.t 0))⟩,⟨(some 17),(some (15,true)),(.mv (.t 1))⟩,⟨(some 18),(some (15,true)),(.conv (.toInt .u64) (.t 17))⟩,⟨(some 19),(some (15,true)),(.bin .num .mul (.c (.int .u64 8)) (.t 18))⟩,⟨(some 20),(some (15,true)),(.bin .num .shr (.t 16) (.t 19))⟩,⟨(some 21),(some (15,true)),(.bin .num .neq (.t 20) (ki 0))⟩,⟨(some 22),(some (12,false)),(.pick (.t 15) (.t 21) (kb false))⟩,pk 23 (.t 12) (kb true) (.t 22)] [0,1,23] (.cond (.t 23) (.seq (.ops [mk 4 (.c (.str []))]) (.keep (kp [(4,0)] [] 0) .ret)) (.keep (kp [(0,0),(1,0)] [] 0) .skip))) (.trim [0,1] g40p1_c))),[.t 4]⟩
abbrev g40_S:=Sys.on [(81,g63_r),(124,g51_r)] []
@[reducible,simp] def g40p1_F:Str→Out:=(fun t=>(.ret,[(4,(.str t))],[]))
def spec_l01PutUint_p1 (v2:Int) (v3:Int):Option (Str):=(spec_l01Bytes v2 v3).bind fun r4=>some r4
@[simp] theorem g40p1_eq (y0 y1):X g40_S g40p1_c [(0,(.int .i64 y0)),(1,(.int .i64 y1))] []=(spec_l01PutUint_p1 y0 y1).map g40p1_F:=by
  simp (maxSteps:=2000000) (maxDischargeDepth:=8) -implicitDefEqProofs [g40p1_c,spec_l01PutUint_p1] <;> (try simp only [map_to_bind,some_elim,g40p1_F])
def spec_l01PutUint (a_n:Int) (a_size:Int):Option (Str):=(spec_l00In a_size 1 8).bind fun r1=>if ¬(r1=true) then some (([]:Str)) else if a_n < 0 then some (([]:Str)) else if a_size < 8 then if (IntKind.u64.wrap (8 * ((IntKind.u64.wrap a_size)))) < 0 then none else if ¬((shrV .i64 a_n ((IntKind.u64.wrap (8 * ((IntKind.u64.wrap a_size))))))=0) then some (([]:Str)) else (spec_l01PutUint_p1 a_n a_size).bind fun r5=>some r5 else (spec_l01PutUint_p1 a_n a_size).bind fun r6=>some r6
@[simp] def g40_O:Str→TV×List Blk:=fun r=>((.str r),[])
def g40_E (a:Int×Int):List TV:=[(.int .i64 a.1),(.int .i64 a.2)]
theorem g40_run (a_n:Int) (a_size:Int) :callFn (X g40_S) g40_tf (g40_E (a_n,a_size)) []=(spec_l01PutUint a_n a_size).map g40_O:=by
  rw [callFn_eq]
  simp (maxSteps:=2000000) (maxDischargeDepth:=8) -implicitDefEqProofs [g40_tf,spec_l01PutUint,g40_E] <;> (try simp only [map_to_bind,some_elim,g40_O])
def g40_r:Rule:=RlO g40_E (fun a=>spec_l01PutUint a.1 a.2) g40_O
theorem g40_ok:RuleOk Tryz.prog 75 g40_r:=ok_rlo (S:=g40_S) (tf:=g40_tf) (SysOk.on ⟨g63_ok,g51_ok,trivial⟩ trivial) (trE_ok (ks:=[]) Tryz.func75 (by kernel_rfl)) fun a=>g40_run a.1 a.2
@[simp] theorem g40_app (y0 y1):g40_r [(.int .i64 y0),(.int .i64 y1)]=(spec_l01PutUint y0 y1).map g40_O :=
  RlO_app (enc:=g40_E) (by intro a b h;simp [g40_E,Prod.ext_iff] at h ⊢;simp [h]) (y0,y1)
/-! spec.EncodeSpace -/
def g33p2_c:TC:=(.after (.ops [mo 27 3,fa 28 0 1,ld 29 28,mo 30 4,ia 31 1 29 30,ld 32 31,ca 33 75 [.t 32,ki 1],mo 34 5,ca 35 75 [.t 34,ki 1],oo 36 (.bin .str .add (.t 33) (.t 35)),oo 37 (.bin .str .add (.t 27) (.t 36)),mo 3 37]) (kp [(1,0),(3,0),(4,0)] [(0,0)] 0))
def g33l1_cb:TC:=(.seq (sq [mo 13 4,fa 14 0 1,ld 15 14,le 16 15,bn 17 .lss (.t 13) (.t 16)] [1,3,4,17] (.cond (.t 17) .skip (.keep (kp [(3,0)] [] 0) (.exit 0)))) (.trim [1,3,4] (.seq (.block 1 (sq [fa 20 1 1,ld 21 20,mo 22 4,ia 23 1 21 22,ld 24 23,mo 5 24] [1,3,4,5] (.seq (sq [mo 25 5,bn 26 .eql (.t 25) (ki (-1))] [1,3,4,5,26] (.cond (.t 26) (.after (.ops [mk 5 (ki 255)]) (kp [(1,0),(3,0),(4,0),(5,0)] [(0,0)] 0)) (.keep (kp [(1,0),(3,0),(4,0),(5,0)] [(0,0)] 0) .skip))) (.trim [1,3,4,5] g33p2_c)))) (.trim [1,3,4] (.after (.ops [mo 18 4,bn 19 .add (.t 18) (ki 1),mo 4 19]) (kp [(1,0),(3,0),(4,0)] [(0,0)] 0))))))
def g33l1_c:TC:=.loop [1,3,4] g33l1_cb
def g33_tf:TFn:=⟨(sq [bx 1 0,mk 2 (.c (.str []))] [1] (.seq (sq [ln 6 2 1,ca 7 41 [.t 6],nt 8 7] [1,8] (.cond (.t 8) (.seq (.ops [mk 2 (.c (.str []))]) (.keep (kp [(2,0)] [] 0) .ret)) .skip)) (.trim [1] (sq [fa 9 0 1,ld 10 9,le 11 10,ca 12 75 [.t 11,ki 1],mo 3 12] [1,3] (.seq (sq [mk 4 (ki 0)] [1,3,4] (.block 0 (.keep (kp [(1,0),(3,0),(4,0)] [(0,0)] 0) g33l1_c))) (.trim [3] (.seq (.ops [mo 38 3,mo 2 38]) (.keep (kp [(2,0)] [] 0) .ret)))))))),[.t 2]⟩
abbrev g33_S:=Sys.on [(41,g50_r),(75,g40_r)] []
@[reducible,simp] def g33p2_F:((List Int×List Int)×Str×Int)→Out:=(fun t=>(.nrm,[(1,(.ptr 0 0 0)),(3,(.str t.2.1)),(4,(.int .i64 t.2.2))],[(.live 2 [[(.vs (rows t.1.1)),(.vs (rows t.1.2))]])]))
def spec_EncodeSpace_p2 (v7:List Int×List Int) (v8:Str) (v9:Int) (v10:Int):Option ((List Int×List Int)×Str×Int):=if 0≤v9 then (v7.1[(v9).toNat]?).bind fun x11=>(spec_l01PutUint x11 1).bind fun r12=>(spec_l01PutUint v10 1).bind fun r13=>if r12.length+r13.length≤9223372036854775807 then if v8.length+((r12++r13)).length≤9223372036854775807 then some ((v7,(v8++(r12++r13)),v9)) else none else none else none
@[simp] theorem g33p2_eq (y0 y1 y2 y3 y4):X g33_S g33p2_c [(1,(.ptr 0 0 0)),(3,(.str y2)),(4,(.int .i64 y3)),(5,(.int .i64 y4))] [(.live 2 [[(.vs (rows y0)),(.vs (rows y1))]])]=(spec_EncodeSpace_p2 ((y0,y1)) y2 y3 y4).map g33p2_F:=by
  simp (maxSteps:=2000000) (maxDischargeDepth:=8) -implicitDefEqProofs [g33p2_c,spec_EncodeSpace_p2] <;> (try simp only [map_to_bind,some_elim,g33p2_F])
@[reducible,simp] def g33l1_F:Str→Out:=(fun t=>(.ext 0,[(3,(.str t))],[]))
def spec_EncodeSpace_l1_b (v3:List Int×List Int) (v4:Str) (v5:Int):Option (((List Int×List Int)×Str×Int) ⊕ (Str)):=if v5 < (v3.1.length:Int) then if 0≤v5 then (v3.2[(v5).toNat]?).bind fun x6=>if x6=(-1) then (spec_EncodeSpace_p2 v3 v4 v5 255).bind fun r14=>some (.inl (r14.1,r14.2.1,(IntKind.i64.wrap (r14.2.2+1)))) else (spec_EncodeSpace_p2 v3 v4 v5 x6).bind fun r15=>some (.inl (r15.1,r15.2.1,(IntKind.i64.wrap (r15.2.2+1)))) else none else some (.inr v4)
theorem g33l1_b_eq  (v3:List Int×List Int) (v4:Str) (v5:Int):X g33_S g33l1_cb (keepEnv [1,3,4] [(1,(.ptr 0 0 0)),(3,(.str v4)),(4,(.int .i64 v5))]) [(.live 2 [[(.vs (rows v3.1)),(.vs (rows v3.2))]])]=(spec_EncodeSpace_l1_b v3 v4 v5).map (Sum.elim (fun s=>(TX.nrm,[(1,(.ptr 0 0 0)),(3,(.str s.2.1)),(4,(.int .i64 s.2.2))],[(.live 2 [[(.vs (rows s.1.1)),(.vs (rows s.1.2))]])])) g33l1_F):=by
  simp (maxSteps:=2000000) (maxDischargeDepth:=8) -implicitDefEqProofs [g33l1_cb,spec_EncodeSpace_l1_b] <;> (try simp only [map_to_bind,some_elim,g33l1_F])
def spec_EncodeSpace_l1  (s:(List Int×List Int)×Str×Int):Option (Str):=loopO (fun s=>spec_EncodeSpace_l1_b  s.1 s.2.1 s.2.2) s
@[simp] theorem g33l1_eq (y0 y1 y2 y3):X g33_S g33l1_c [(1,(.ptr 0 0 0)),(3,(.str y2)),(4,(.int .i64 y3))] [(.live 2 [[(.vs (rows y0)),(.vs (rows y1))]])]=(spec_EncodeSpace_l1  ((y0,y1),y2,y3)).map g33l1_F:=by
  exact loop_X _ _ _ _ (by intro r;first | (simp;done) | (rcases r with r | r <;> simp;done) | (rcases r with r | r | r <;> simp;done) | (rcases r with r | r | r | r <;> simp)) (fun s=>g33l1_b_eq   s.1 s.2.1 s.2.2) ((y0,y1),y2,y3)
def spec_EncodeSpace (a_s:List Int×List Int):Option (Str):=(spec_l05Space a_s).bind fun r1=>if ¬(r1=true) then some (([]:Str)) else (spec_l01PutUint ((a_s.1.length:Int)) 1).bind fun r2=>(spec_EncodeSpace_l1 ((a_s,r2,0))).bind fun r16=>some r16
@[simp] def g33_O:Str→TV×List Blk:=fun r=>((.str r),[])
def g33_E (a:(List Int×List Int)):List TV:=[(.agg [(.vs (rows a.1)),(.vs (rows a.2))])]
theorem g33_run (a_s:List Int×List Int) :callFn (X g33_S) g33_tf (g33_E a_s) []=(spec_EncodeSpace a_s).map g33_O:=by
  rw [callFn_eq]
  simp (maxSteps:=2000000) (maxDischargeDepth:=8) -implicitDefEqProofs [g33_tf,spec_EncodeSpace,g33_E] <;> (try simp only [map_to_bind,some_elim,g33_O])
def g33_r:Rule:=RlO g33_E (fun a=>spec_EncodeSpace a) g33_O
theorem g33_ok:RuleOk Tryz.prog 35 g33_r:=ok_rlo (S:=g33_S) (tf:=g33_tf) (SysOk.on ⟨g50_ok,g40_ok,trivial⟩ trivial) (trE_ok (ks:=[[1,3,4]]) Tryz.func35 (by kernel_rfl)) fun a=>g33_run a
@[simp] theorem g33_app (y0 y1):g33_r [(.agg [(.vs (rows y0)),(.vs (rows y1))])]=(spec_EncodeSpace ((y0,y1))).map g33_O :=
  RlO_app (enc:=g33_E) (by intro a b h;simp [g33_E,Prod.ext_iff] at h ⊢;simp [h]) ((y0,y1))
/-! spec.DrawDecodeSpace -/
def g21_tf:TFn:=⟨(sq [mk 2 (.c (.str []))] [0] (sq [mo 6 0,ca 7 34 [.t 6],mo 3 7] [3] (sq [mo 8 3,oo 9 (.callM 36 0 [0] [.t 8]),ca 10 35 [.t 9],oo 11 (.conv .toBytes (.t 10)),mo 4 11] [3,4] (.seq (sq [mo 12 3,oo 13 (.callM 37 0 [0] [.t 12,ki 6])] [3,4,13] (.block 0 (sq [bn 15 .eql (.t 13) (ki 0),mo 14 15] [3,4,13,14] (.cond (.t 14) (sq [mo 16 3,mo 17 4,le 18 17,oo 19 (.callM 37 0 [0] [.t 16,.t 18]),mo 5 19] [3,4,5] (.after (.ops [mo 20 4,mo 21 5,mo 22 3,oo 23 (.callM 37 0 [0] [.t 22,ki 256]),oo 24 (.conv (.toInt .u8) (.t 23)),ia 25 1 20 21,⟨none,none,(.store 1 (.t 25) (.t 24))⟩,⟨(some 4),none,(.frz [4] (.t 4))⟩]) (kp [(4,0)] [] 0))) (sq [bn 27 .eql (.t 13) (ki 1),mo 26 27] [3,4,13,26] (.cond (.t 26) (.after (.ops [mo 28 4,mo 29 3,oo 30 (.callM 37 0 [0] [.t 29,ki 50]),oo 31 (.conv (.toInt .u8) (.t 30)),oo 32 (.bslice [(.int .u8 0)] 1 [(0,(.t 31))]),oo 33 (.append 5 1 1 (.t 28) (.t 32)),mo 4 33,⟨(some 4),none,(.frz [6] (.t 4))⟩]) (kp [(4,0)] [] 0)) (sq [bn 35 .eql (.t 13) (ki 2),mo 34 35] [3,4,34] (.cond (.t 34) (.after (.ops [mo 36 4,mo 37 3,mo 38 4,le 39 38,oo 40 (.callM 37 0 [0] [.t 37,.t 39]),⟨(some 36),none,(.frz [4] (.t 36))⟩,oo 41 (.slice 1 (.t 36) none (some (.t 40)) none),mo 4 41]) (kp [(4,0)] [] 0)) (.fz 4 [4] (.keep (kp [(4,0)] [] 0) .skip)))))))))) (.trim [4] (.seq (.ops [mo 42 4,oo 43 (.conv .toStr (.t 42)),mo 2 43]) (.keep (kp [(2,0)] [] 0) .ret))))))),[.t 2]⟩
abbrev g21_S:=Sys.on [(34,g53_r),(35,g33_r)] [((36,0),(1,g14_r)),((37,0),(1,g19_r))]
def spec_DrawDecodeSpace (a_code:List Bt):Option (Str):=(spec_l00From a_code).bind fun r1=>(spec_l05DrawSpace_o9d r1.1 r1.2.1 r1.2.2).bind fun r2=>(spec_EncodeSpace r2.2.2.2).bind fun r3=>(bytL r3).bind fun l4=>(spec_l00Src_pick_o30 r2.1 r2.2.1 r2.2.2.1 6).bind fun r5=>if r5.2.2.2=0 then (spec_l00Src_pick_o30 r5.1 r5.2.1 r5.2.2.1 (((l4.length:Nat):Int))).bind fun r6=>(spec_l00Src_pick_o30 r6.1 r6.2.1 r6.2.2.1 256).bind fun r7=>if 0≤r6.2.2.2∧r6.2.2.2 < ((l4.length:Nat):Int) then (l4[(r6.2.2.2).toNat]?).bind fun x8=>some ((((l4.set (r6.2.2.2).toNat (⟨UInt8.ofNat ((IntKind.u8.wrap r7.2.2.2)).toNat⟩:Bt))).map Bt.v)) else none else if r5.2.2.2=1 then (spec_l00Src_pick_o30 r5.1 r5.2.1 r5.2.2.1 50).bind fun r9=>(appL 1 l4 ((lit [(⟨UInt8.ofNat ((IntKind.u8.wrap r9.2.2.2)).toNat⟩:Bt)]:List Bt))).bind fun l10=>some ((l10.map Bt.v)) else if r5.2.2.2=2 then (spec_l00Src_pick_o30 r5.1 r5.2.1 r5.2.2.1 (((l4.length:Nat):Int))).bind fun r11=>(subL l4 none (some r11.2.2.2)).bind fun l12=>some ((l12.map Bt.v)) else some ((l4.map Bt.v))
@[simp] def g21_O:Str→TV×List Blk:=fun r=>((.str r),[])
def g21_E (a:List Bt):List TV:=[(.vs (rows a))]
theorem g21_run (a_code:List Bt) :callFn (X g21_S) g21_tf (g21_E a_code) []=(spec_DrawDecodeSpace a_code).map g21_O:=by
  rw [callFn_eq]
  simp (maxSteps:=2000000) (maxDischargeDepth:=8) -implicitDefEqProofs [g21_tf,spec_DrawDecodeSpace,g21_E,bslV_lit (α:=Bt) (zs:=[(.int .u8 0)])] <;> (try simp only [map_to_bind,some_elim,g21_O])
def g21_r:Rule:=RlO g21_E (fun a=>spec_DrawDecodeSpace a) g21_O
theorem g21_ok:RuleOk Tryz.prog 7 g21_r:=ok_rlo (S:=g21_S) (tf:=g21_tf) (SysOk.on ⟨g53_ok,g33_ok,trivial⟩ ⟨g14_ok,g19_ok,trivial⟩) (trE_ok (ks:=[]) Tryz.func7 (by kernel_rfl)) fun a=>g21_run a
@[simp] theorem g21_app (y0):g21_r [(.vs (rows y0))]=(spec_DrawDecodeSpace y0).map g21_O :=
  RlO_app (enc:=g21_E) (by intro a b h;simp [g21_E,Prod.ext_iff] at h ⊢;simp [h]) y0
/-! impl.within -/
def g60_tf:TFn:=⟨(sq [mk 6 (kb false)] [0,1,2] (.seq (.after (.ops [mo 7 0,mo 8 1,bn 9 .geq (.t 7) (.t 8),mo 10 9,⟨(some 11),(some (10,true)),(.mv (.t 0))⟩,⟨(some 12),(some (10,true)),(.mv (.t 2))⟩,⟨(some 13),(some (10,true)),(.bin .num .leq (.t 11) (.t 12))⟩,pk 14 (.t 10) (.t 13) (kb false),mo 6 14]) (kp [(6,0)] [] 0)) (.keep (kp [(6,0)] [] 0) .ret))),[.t 6]⟩
abbrev g60_S:=Sys.on [] []
def impl_within (a_n:Int) (a_low:Int) (a_high:Int):Option (Bool):=if a_n ≥ a_low then some ((decide (a_n≤a_high))) else some false
@[simp] def g60_O:Bool→TV×List Blk:=fun r=>((.bool r),[])
def g60_E (a:Int×Int×Int):List TV:=[(.int .i64 a.1),(.int .i64 a.2.1),(.int .i64 a.2.2)]
theorem g60_run (a_n:Int) (a_low:Int) (a_high:Int) :callFn (X g60_S) g60_tf (g60_E (a_n,a_low,a_high)) []=(impl_within a_n a_low a_high).map g60_O:=by
  rw [callFn_eq]
  simp (maxSteps:=2000000) (maxDischargeDepth:=8) -implicitDefEqProofs [g60_tf,impl_within,g60_E] <;> (try simp only [map_to_bind,some_elim,g60_O])
def g60_r:Rule:=RlO g60_E (fun a=>impl_within a.1 a.2.1 a.2.2) g60_O
theorem g60_ok:RuleOk Tryz.prog 79 g60_r:=ok_rlo (S:=g60_S) (tf:=g60_tf) (SysOk.on trivial trivial) (trE_ok (ks:=[]) Tryz.func79 (by kernel_rfl)) fun a=>g60_run a.1 a.2.1 a.2.2
@[simp] theorem g60_app (y0 y1 y2):g60_r [(.int .i64 y0),(.int .i64 y1),(.int .i64 y2)]=(impl_within y0 y1 y2).map g60_O :=
  RlO_app (enc:=g60_E) (by intro a b h;simp [g60_E,Prod.ext_iff] at h ⊢;simp [h]) (y0,y1,y2)
/-! impl.cut -/
def g64_tf:TFn:=⟨(sq [mk 6 (.c (.str [])),mk 7 (kb false)] [0,1,2] (.seq (sq [mo 8 2,bn 9 .lss (.t 8) (ki 0),mo 10 9,⟨(some 11),(some (10,false)),(.mv (.t 1))⟩,⟨(some 12),(some (10,false)),(.mv (.t 0))⟩,⟨(some 13),(some (10,false)),(.len true (.t 12))⟩,⟨(some 14),(some (10,false)),(.mv (.t 2))⟩,⟨(some 15),(some (10,false)),(.bin .num .sub (.t 13) (.t 14))⟩,⟨(some 16),(some (10,false)),(.call 79 [.t 11,ki 0,.t 15])⟩,⟨(some 17),(some (10,false)),(.un .not (.t 16))⟩,pk 18 (.t 10) (kb true) (.t 17)] [0,1,2,18] (.cond (.t 18) (.seq (.ops [mk 6 (.c (.str [])),mk 7 (kb false)]) (.keep (kp [(6,0),(7,0)] [] 0) .ret)) .skip)) (.trim [0,1,2] (.seq (.ops [mo 19 0,mo 20 1,mo 21 1,mo 22 2,bn 23 .add (.t 21) (.t 22),oo 24 (.sliceS (.t 19) (some (.t 20)) (some (.t 23))),mo 6 24,mk 7 (kb true)]) (.keep (kp [(6,0),(7,0)] [] 0) .ret))))),[.t 6,.t 7]⟩
abbrev g64_S:=Sys.on [(79,g60_r)] []
def impl_cut (a_s:Str) (a_at:Int) (a_size:Int):Option (Str×Bool):=if a_size < 0 then some (([]:Str),false) else (impl_within a_at 0 ((IntKind.i64.wrap ((a_s.length:Int) - a_size)))).bind fun r1=>if ¬(r1=true) then some (([]:Str),false) else (subL a_s (some a_at) (some ((IntKind.i64.wrap (a_at+a_size))))).bind fun s2=>some (s2,true)
@[simp] def g64_O:(Str×Bool)→TV×List Blk:=fun r=>((.tup [(.str r.1),(.bool r.2)]),[])
def g64_E (a:Str×Int×Int):List TV:=[(.str a.1),(.int .i64 a.2.1),(.int .i64 a.2.2)]
theorem g64_run (a_s:Str) (a_at:Int) (a_size:Int) :callFn (X g64_S) g64_tf (g64_E (a_s,a_at,a_size)) []=(impl_cut a_s a_at a_size).map g64_O:=by
  rw [callFn_eq]
  simp (maxSteps:=2000000) (maxDischargeDepth:=8) -implicitDefEqProofs [g64_tf,impl_cut,g64_E] <;> (try simp only [map_to_bind,some_elim,g64_O])
def g64_r:Rule:=RlO g64_E (fun a=>impl_cut a.1 a.2.1 a.2.2) g64_O
theorem g64_ok:RuleOk Tryz.prog 210 g64_r:=ok_rlo (S:=g64_S) (tf:=g64_tf) (SysOk.on ⟨g60_ok,trivial⟩ trivial) (trE_ok (ks:=[]) Tryz.func210 (by kernel_rfl)) fun a=>g64_run a.1 a.2.1 a.2.2
@[simp] theorem g64_app (y0 y1 y2):g64_r [(.str y0),(.int .i64 y1),(.int .i64 y2)]=(impl_cut y0 y1 y2).map g64_O :=
  RlO_app (enc:=g64_E) (by intro a b h;simp [g64_E,Prod.ext_iff] at h ⊢;simp [h]) (y0,y1,y2)
/-! (*impl.decoder).take -/
def g15_tf:TFn:=⟨(sq [mk 4 (.c (.str []))] [0,1] (sq [mo 8 0,nk 9 8,fa 10 0 9,ld 11 10,mo 12 1,ca 13 210 [.t 11,ki 0,.t 12],mo 7 13,oo 14 (.ext (.t 7) 0),oo 15 (.ext (.t 7) 1),mo 5 14,mo 6 15] [0,1,5,6] (.seq (sq [mo 16 6,nt 17 16] [0,1,5,17] (.cond (.t 17) (sq [mo 18 0,nk 19 18,fa 20 1 19,⟨none,none,(.store 1 (.t 20) (kb true))⟩] [] (.seq (.ops [mk 4 (.c (.str []))]) (.keep (kp [(4,0)] [(0,0)] 1) .ret))) .skip)) (.trim [0,1,5] (sq [mo 21 0,mo 22 0,nk 23 22,fa 24 0 23,ld 25 24,mo 26 1,oo 27 (.sliceS (.t 25) (some (.t 26)) none),nk 28 21,fa 29 0 28,⟨none,none,(.store 1 (.t 29) (.t 27))⟩] [5] (.seq (.ops [mo 30 5,mo 4 30]) (.keep (kp [(4,0)] [(0,0)] 1) .ret))))))),[.t 4]⟩
abbrev g15_S:=Sys.on [(210,g64_r)] []
def impl_decoder_take_o1a (a1:Str×Bool) (a2:Int):Option ((Str×Bool)×Str):=(impl_cut a1.1 0 a2).bind fun r1=>if ¬(r1.2=true) then some ((a1.1,true),([]:Str)) else (subL a1.1 (some a2) none).bind fun s2=>some ((s2,a1.2),r1.1)
@[simp] def g15_O:((Str×Bool)×Str)→TV×List Blk:=fun r=>((.str r.2),[(.live 2 [[(.str r.1.1),(.bool r.1.2)]])])
abbrev g15_T:=(Str×Bool)×Int
def g15_E (a:g15_T):List TV:=[(.ptr 0 0 0),(.int .i64 a.2)]
def g15_B (a:g15_T):List Blk:=[(.live 2 [[(.str a.1.1),(.bool a.1.2)]])]
theorem g15_run (a1:Str×Bool) (a2:Int) :callFn (X g15_S) g15_tf (g15_E (a1,a2)) (g15_B (a1,a2))=(impl_decoder_take_o1a a1 a2).map g15_O:=by
  rw [callFn_eq]
  simp (maxSteps:=2000000) (maxDischargeDepth:=8) -implicitDefEqProofs [g15_tf,impl_decoder_take_o1a,g15_E,g15_B] <;> (try simp only [map_to_bind,some_elim,g15_O])
def g15_r:MRule:=RmO g15_E g15_B (fun a=>impl_decoder_take_o1a a.1 a.2) g15_O
theorem g15_ok:MRuleOk Tryz.prog 173 1 g15_r:=ok_rmo (S:=g15_S) (tf:=g15_tf) (SysOk.on ⟨g64_ok,trivial⟩ trivial) (trE_ok (ks:=[]) Tryz.func173 (by kernel_rfl)) (by rfl) (fun _=>by simp [g15_B]) (fun _=>by simp) fun a=>g15_run a.1 a.2
@[simp] theorem g15_app (y0 y1 y2):g15_r [(.ptr 0 0 0),(.int .i64 y2)] [(.live 2 [[(.str y0),(.bool y1)]])]=(impl_decoder_take_o1a ((y0,y1)) y2).map g15_O:=by
  exact RmO_app (enc:=g15_E) (encB:=g15_B) (by intro a b h h2;simp [g15_E,g15_B,Prod.ext_iff] at h h2 ⊢;simp [h,h2]) ((y0,y1),y2)
/-! impl.getBits -/
def g55l1_cb:TC:=(sq [bn 8 .lss (.t 7) (.t 6)] [0,3,6,7,8] (.seq (.cond (.t 8) .skip (.keep (kp [(3,0)] [] 0) (.exit 0))) (.trim [0,3,6,7] (.seq (.block 1 (sq [mo 9 7,mo 4 9] [0,3,4,6,7] (.ops [mo 10 3,mo 11 0,mo 12 4,oo 13 (.index (.t 11) (.t 12)),oo 14 (.conv (.toInt .u64) (.t 13)),mo 15 4,bn 16 .mul (ki 8) (.t 15),bn 17 .shl (.t 14) (.t 16),bn 18 .or (.t 10) (.t 17),mo 3 18]))) (.trim [0,3,6,7] (.after (.ops [bn 19 .add (.t 7) (ki 1),mo 7 19]) (kp [(0,0),(3,0),(6,0),(7,0)] [] 0)))))))
def g55l1_c:TC:=.loop [0,3,6,7] g55l1_cb
def g55_tf:TFn:=⟨(sq [mk 2 (.c (.int .u64 0))] [0] (sq [mk 3 (.c (.int .u64 0))] [0,3] (.seq (sq [mo 5 0,oo 6 (.len true (.t 5)),mk 7 (ki 0)] [0,3,6,7] (.block 0 (.keep (kp [(0,0),(3,0),(6,0),(7,0)] [] 0) g55l1_c))) (.trim [3] (.seq (.ops [mo 20 3,mo 2 20]) (.keep (kp [(2,0)] [] 0) .ret)))))),[.t 2]⟩
abbrev g55_S:=Sys.on [] []
@[reducible,simp] def g55l1_F:Int→Out:=(fun t=>(.ext 0,[(3,(.int .u64 t))],[]))
def impl_getBits_l1_b (v1:Str) (v3:Int) (v2:Int) (v4:Int):Option ((Int×Int) ⊕ (Int)):=if v4 < v3 then if 0≤v4 then (v1[(v4).toNat]?).bind fun (b5:UInt8)=>if (IntKind.i64.wrap (8 * v4)) < 0 then none else some (.inl ((bitV .or .u64 v2 ((shlV .u64 ((IntKind.u64.wrap ((b5.toNat:Int)))) ((IntKind.i64.wrap (8 * v4)))))),(IntKind.i64.wrap (v4+1)))) else none else some (.inr v2)
theorem g55l1_b_eq  (v1:Str) (v3:Int) (v2:Int) (v4:Int):X g55_S g55l1_cb (keepEnv [0,3,6,7] [(0,(.str v1)),(3,(.int .u64 v2)),(6,(.int .i64 v3)),(7,(.int .i64 v4))]) []=(impl_getBits_l1_b v1 v3 v2 v4).map (Sum.elim (fun s=>(TX.nrm,[(0,(.str v1)),(3,(.int .u64 s.1)),(6,(.int .i64 v3)),(7,(.int .i64 s.2))],[])) g55l1_F):=by
  simp (maxSteps:=2000000) (maxDischargeDepth:=8) -implicitDefEqProofs [g55l1_cb,impl_getBits_l1_b] <;> (try simp only [map_to_bind,some_elim,g55l1_F])
def impl_getBits_l1 (v1:Str) (v3:Int) (s:Int×Int):Option (Int):=loopO (fun s=>impl_getBits_l1_b v1 v3 s.1 s.2) s
@[simp] theorem g55l1_eq (y0 y1 y2 y3):X g55_S g55l1_c [(0,(.str y0)),(3,(.int .u64 y1)),(6,(.int .i64 y2)),(7,(.int .i64 y3))] []=(impl_getBits_l1 y0 y2 (y1,y3)).map g55l1_F:=by
  exact loop_X _ _ _ _ (by intro r;first | (simp;done) | (rcases r with r | r <;> simp;done) | (rcases r with r | r | r <;> simp;done) | (rcases r with r | r | r | r <;> simp)) (fun s=>g55l1_b_eq  y0 y2 s.1 s.2) (y1,y3)
def impl_getBits (a_s:Str):Option (Int):=(impl_getBits_l1 a_s ((a_s.length:Int)) ((0,0))).bind fun r6=>some r6
@[simp] def g55_O:Int→TV×List Blk:=fun r=>((.int .u64 r),[])
def g55_E (a:Str):List TV:=[(.str a)]
theorem g55_run (a_s:Str) :callFn (X g55_S) g55_tf (g55_E a_s) []=(impl_getBits a_s).map g55_O:=by
  rw [callFn_eq]
  simp (maxSteps:=2000000) (maxDischargeDepth:=8) -implicitDefEqProofs [g55_tf,impl_getBits,g55_E] <;> (try simp only [map_to_bind,some_elim,g55_O])
def g55_r:Rule:=RlO g55_E (fun a=>impl_getBits a) g55_O
theorem g55_ok:RuleOk Tryz.prog 170 g55_r:=ok_rlo (S:=g55_S) (tf:=g55_tf) (SysOk.on trivial trivial) (trE_ok (ks:=[[0,3,6,7]]) Tryz.func170 (by kernel_rfl)) fun a=>g55_run a
@[simp] theorem g55_app (y0):g55_r [(.str y0)]=(impl_getBits y0).map g55_O :=
  RlO_app (enc:=g55_E) (by intro a b h;simp [g55_E,Prod.ext_iff] at h ⊢;simp [h]) y0
/-! (*impl.decoder).number -/
def g5_tf:TFn:=⟨(sq [mk 4 (ki 0)] [0,1] (.seq (.ops [mo 5 0,mo 6 1,oo 7 (.callM 173 0 [0] [.t 5,.t 6]),ca 8 170 [.t 7],oo 9 (.conv (.toInt .i64) (.t 8)),mo 4 9]) (.keep (kp [(4,0)] [(0,0)] 1) .ret))),[.t 4]⟩
abbrev g5_S:=Sys.on [(170,g55_r)] [((173,0),(1,g15_r))]
def impl_decoder_number_o1a (a1:Str×Bool) (a2:Int):Option ((Str×Bool)×Int):=(impl_decoder_take_o1a a1 a2).bind fun r1=>(impl_getBits r1.2).bind fun r2=>some (r1.1,(IntKind.i64.wrap r2))
@[simp] def g5_O:((Str×Bool)×Int)→TV×List Blk:=fun r=>((.int .i64 r.2),[(.live 2 [[(.str r.1.1),(.bool r.1.2)]])])
abbrev g5_T:=(Str×Bool)×Int
def g5_E (a:g5_T):List TV:=[(.ptr 0 0 0),(.int .i64 a.2)]
def g5_B (a:g5_T):List Blk:=[(.live 2 [[(.str a.1.1),(.bool a.1.2)]])]
theorem g5_run (a1:Str×Bool) (a2:Int) :callFn (X g5_S) g5_tf (g5_E (a1,a2)) (g5_B (a1,a2))=(impl_decoder_number_o1a a1 a2).map g5_O:=by
  rw [callFn_eq]
  simp (maxSteps:=2000000) (maxDischargeDepth:=8) -implicitDefEqProofs [g5_tf,impl_decoder_number_o1a,g5_E,g5_B] <;> (try simp only [map_to_bind,some_elim,g5_O])
def g5_r:MRule:=RmO g5_E g5_B (fun a=>impl_decoder_number_o1a a.1 a.2) g5_O
theorem g5_ok:MRuleOk Tryz.prog 126 1 g5_r:=ok_rmo (S:=g5_S) (tf:=g5_tf) (SysOk.on ⟨g55_ok,trivial⟩ ⟨g15_ok,trivial⟩) (trE_ok (ks:=[]) Tryz.func126 (by kernel_rfl)) (by rfl) (fun _=>by simp [g5_B]) (fun _=>by simp) fun a=>g5_run a.1 a.2
@[simp] theorem g5_app (y0 y1 y2):g5_r [(.ptr 0 0 0),(.int .i64 y2)] [(.live 2 [[(.str y0),(.bool y1)]])]=(impl_decoder_number_o1a ((y0,y1)) y2).map g5_O:=by
  exact RmO_app (enc:=g5_E) (encB:=g5_B) (by intro a b h h2;simp [g5_E,g5_B,Prod.ext_iff] at h h2 ⊢;simp [h,h2]) ((y0,y1),y2)
end
end Go.Proofs.TM
