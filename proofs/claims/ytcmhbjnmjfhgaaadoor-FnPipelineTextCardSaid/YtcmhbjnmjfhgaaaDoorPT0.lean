/- Functions of the program, as functions of their data: written by program. -/
import Derived.Test.YtcmhbjnmjfhgaaaDoorTRec
import Derived.Test.YtcmhbjnmjfhgaaaDoorTShelf
import Derived.Test.YtcmhbjnmjfhgaaaDoorTLib
import Derived.Test.YtcmhbjnmjfhgaaaDoorProg
import Derived.KernelRfl
namespace Go.Proofs.TM
open Go Go.Proofs
set_option linter.unusedVariables false
set_option linter.unusedSimpArgs false
set_option maxHeartbeats 1000000
attribute [-simp] Option.map_bind strV_some
attribute [simp] guardOn_bool sA_bslice Function.comp_def
noncomputable section

/-! spec.l00From -/
def g51_tf:TFn:=⟨(sq [mk 2 (.c .nilp)] [0] (.seq (.ops [mo 3 0,oo 4 (.build [.nils,(.int .i64 0),(.int .u64 0)] [(0,1,(.t 3))]),bx 5 4,mo 2 5]) (.keep (kp [(2,0)] [(0,0)] 0) .ret))),[.t 2]⟩
abbrev g51_S:=Sys.on [] []
def spec_l00From (a_code:List Bt):Option (List Bt×Int×Int):=some (a_code,0,0)
@[simp] def g51_O:(List Bt×Int×Int)→TV×List Blk:=fun r=>((.ptr 0 0 0),[(.live 3 [[(.vs (rows r.1)),(.int .i64 r.2.1),(.int .u64 r.2.2)]])])
def g51_E (a:List Bt):List TV:=[(.vs (rows a))]
theorem g51_run (a_code:List Bt) :callFn (X g51_S) g51_tf (g51_E a_code) []=(spec_l00From a_code).map g51_O:=by
  rw [callFn_eq]
  simp (maxSteps:=2000000) (maxDischargeDepth:=8) -implicitDefEqProofs [g51_tf,spec_l00From,g51_E] <;> (try simp only [map_to_bind,some_elim,g51_O])
def g51_r:Rule:=RlO g51_E (fun a=>spec_l00From a) g51_O
theorem g51_ok:RuleOk Tryd.prog 23 g51_r:=ok_rlo (S:=g51_S) (tf:=g51_tf) (SysOk.on trivial trivial) (trE_ok (ks:=[]) Tryd.func23 (by kernel_rfl)) fun a=>g51_run a
@[simp] theorem g51_app (y0):g51_r [(.vs (rows y0))]=(spec_l00From y0).map g51_O :=
  RlO_app (enc:=g51_E) (by intro a b h;simp [g51_E,Prod.ext_iff] at h ⊢;simp [h]) y0
/-! (*spec.l00Src).next -/
def g21p1_c:TC:=(sq [mo 25 0,nk 26 25,fa 27 1 26,ld 28 27,bn 29 .add (.t 28) (ki 1),nk 30 25,fa 31 1 30,⟨none,none,(.store 1 (.t 31) (.t 29))⟩] [0,3] (sq [mo 32 0,mo 33 0,nk 34 33,fa 35 2 34,ld 36 35,oo 37 (.bin .num .mul (.t 36) (.c (.int .u64 6364136223846793005))),mo 38 3,oo 39 (.conv (.toInt .u64) (.t 38)),bn 40 .add (.t 37) (.t 39),oo 41 (.bin .num .add (.t 40) (.c (.int .u64 1442695040888963407))),nk 42 32,fa 43 2 42,⟨none,none,(.store 1 (.t 43) (.t 41))⟩] [0,3] (.seq (.seq (.draw [([],mo 44 0),([0],nk 45 44),([0,1],fa 46 1 45),([0,1,2],ld 47 46),([],mo 48 0),([4],nk 49 48),([4,5],fa 50 0 49),([4,5,6],ld 51 50),([4,5,6,7],le 52 51)] [bn 53 .leq (.t 47) (.t 52)]) (.trim [0,3,53] (.cond (.t 53) (.seq (.ops [mo 54 3,mo 2 54]) (.keep (kp [(2,0)] [(0,0)] 1) .ret)) .skip))) (.trim [0] (.seq (.ops [mo 55 0,nk 56 55,fa 57 2 56,ld 58 57,oo 59 (.bin .num .shr (.t 58) (.c (.int .u64 40))),oo 60 (.bin .num .and (.t 59) (.c (.int .u64 255))),oo 61 (.conv (.toInt .i64) (.t 60)),mo 2 61]) (.keep (kp [(2,0)] [(0,0)] 1) .ret))))))
def g21_tf:TFn:=⟨(sq [mk 2 (ki 0)] [0] (sq [mk 3 (ki 0)] [0,3] (.seq (.seq (.draw [([],mo 4 0),([0],nk 5 4),([0,1],fa 6 1 5),([0,1,2],ld 7 6),([],mo 8 0),([4],nk 9 8),([4,5],fa 10 0 9),([4,5,6],ld 11 10),([4,5,6,7],le 12 11)] [bn 13 .lss (.t 7) (.t 12)]) (.trim [0,3,13] (.cond (.t 13) (.after (.draw [([],mo 14 0),([0],nk 15 14),([0,1],fa 16 0 15),([0,1,2],ld 17 16),([],mo 18 0),([4],nk 19 18),([4,5],fa 20 1 19),([4,5,6],ld 21 20)] [ia 22 1 17 21,ld 23 22,oo 24 (.conv (.toInt .i64) (.t 23)),mo 3 24]) (kp [(0,0),(3,0)] [(0,0)] 1)) (.keep (kp [(0,0),(3,0)] [(0,0)] 1) .skip)))) (.trim [0,3] g21p1_c)))),[.t 2]⟩
abbrev g21_S:=Sys.on [] []
@[reducible,simp] def g21p1_F:(List Bt×Int×Int×Int)→Out:=(fun t=>(.ret,[(2,(.int .i64 t.2.2.2))],[(.live 3 [[(.vs (rows t.1)),(.int .i64 t.2.1),(.int .u64 t.2.2.1)]])]))
def spec_l00Src_next_o9d_p1 (v2:List Bt) (v3:Int) (v4:Int) (v5:Int):Option (List Bt×Int×Int×Int):=if (IntKind.i64.wrap (v3+1))≤(v2.length:Int) then some ((v2,(IntKind.i64.wrap (v3+1)),(IntKind.u64.wrap ((IntKind.u64.wrap ((IntKind.u64.wrap (v4 * 6364136223846793005))+(IntKind.u64.wrap v5)))+1442695040888963407)),v5)) else some ((v2,(IntKind.i64.wrap (v3+1)),(IntKind.u64.wrap ((IntKind.u64.wrap ((IntKind.u64.wrap (v4 * 6364136223846793005))+(IntKind.u64.wrap v5)))+1442695040888963407)),(IntKind.i64.wrap ((bitV .and .u64 ((shrV .u64 ((IntKind.u64.wrap ((IntKind.u64.wrap ((IntKind.u64.wrap (v4 * 6364136223846793005))+(IntKind.u64.wrap v5)))+1442695040888963407))) 40)) 255)))))
@[simp] theorem g21p1_eq (y0 y1 y2 y3):X g21_S g21p1_c [(0,(.ptr 0 0 0)),(3,(.int .i64 y3))] [(.live 3 [[(.vs (rows y0)),(.int .i64 y1),(.int .u64 y2)]])]=(spec_l00Src_next_o9d_p1 y0 y1 y2 y3).map g21p1_F:=by
  simp (maxSteps:=2000000) (maxDischargeDepth:=8) -implicitDefEqProofs [g21p1_c,spec_l00Src_next_o9d_p1] <;> (try simp only [map_to_bind,some_elim,g21p1_F])
def spec_l00Src_next_o9d (a1:List Bt) (a2:Int) (a3:Int):Option (List Bt×Int×Int×Int):=if a2 < (a1.length:Int) then if 0≤a2 then (a1[(a2).toNat]?).bind fun x1=>(spec_l00Src_next_o9d_p1 a1 a2 a3 ((IntKind.i64.wrap ((x1.v.toNat:Int))))).bind fun r6=>some (r6.1,r6.2.1,r6.2.2.1,r6.2.2.2) else none else (spec_l00Src_next_o9d_p1 a1 a2 a3 0).bind fun r7=>some (r7.1,r7.2.1,r7.2.2.1,r7.2.2.2)
@[simp] def g21_O:(List Bt×Int×Int×Int)→TV×List Blk:=fun r=>((.int .i64 r.2.2.2),[(.live 3 [[(.vs (rows r.1)),(.int .i64 r.2.1),(.int .u64 r.2.2.1)]])])
abbrev g21_T:=List Bt×Int×Int
def g21_E (a:g21_T):List TV:=[(.ptr 0 0 0)]
def g21_B (a:g21_T):List Blk:=[(.live 3 [[(.vs (rows a.1)),(.int .i64 a.2.1),(.int .u64 a.2.2)]])]
theorem g21_run (a1:List Bt) (a2:Int) (a3:Int) :callFn (X g21_S) g21_tf (g21_E (a1,a2,a3)) (g21_B (a1,a2,a3))=(spec_l00Src_next_o9d a1 a2 a3).map g21_O:=by
  rw [callFn_eq]
  simp (maxSteps:=2000000) (maxDischargeDepth:=8) -implicitDefEqProofs [g21_tf,spec_l00Src_next_o9d,g21_E,g21_B] <;> (try simp only [map_to_bind,some_elim,g21_O])
def g21_r:MRule:=RmO g21_E g21_B (fun a=>spec_l00Src_next_o9d a.1 a.2.1 a.2.2) g21_O
theorem g21_ok:MRuleOk Tryd.prog 72 1 g21_r:=ok_rmo (S:=g21_S) (tf:=g21_tf) (SysOk.on trivial trivial) (trE_ok (ks:=[[9],[8],[9]]) Tryd.func72 (by kernel_rfl)) (by rfl) (fun _=>by simp [g21_B]) (fun _=>by simp) fun a=>g21_run a.1 a.2.1 a.2.2
@[simp] theorem g21_app (y0 y1 y2):g21_r [(.ptr 0 0 0)] [(.live 3 [[(.vs (rows y0)),(.int .i64 y1),(.int .u64 y2)]])]=(spec_l00Src_next_o9d y0 y1 y2).map g21_O:=by
  exact RmO_app (enc:=g21_E) (encB:=g21_B) (by intro a b h h2;simp [g21_E,g21_B,Prod.ext_iff] at h h2 ⊢;simp [h,h2]) (y0,y1,y2)
/-! (*spec.l00Src).pick -/
def g22_tf:TFn:=⟨(sq [mk 4 (ki 0)] [0,1] (.seq (sq [mo 6 1,bn 7 .leq (.t 6) (ki 1)] [0,1,7] (.cond (.t 7) (.seq (.ops [mk 4 (ki 0)]) (.keep (kp [(4,0)] [(0,0)] 1) .ret)) .skip)) (.trim [0,1] (sq [mo 8 0,oo 9 (.callM 72 0 [0] [.t 8]),mo 5 9] [0,1,5] (.seq (sq [mo 10 1,bn 11 .gtr (.t 10) (ki 200)] [0,1,5,11] (.cond (.t 11) (.after (.ops [mo 12 5,bn 13 .mul (.t 12) (ki 256),mo 14 0,oo 15 (.callM 72 0 [0] [.t 14]),bn 16 .add (.t 13) (.t 15),mo 5 16]) (kp [(1,0),(5,0)] [(0,0)] 1)) (.keep (kp [(1,0),(5,0)] [(0,0)] 1) .skip))) (.trim [1,5] (.seq (.ops [mo 17 5,mo 18 1,bn 19 .rem (.t 17) (.t 18),mo 4 19]) (.keep (kp [(4,0)] [(0,0)] 1) .ret)))))))),[.t 4]⟩
abbrev g22_S:=Sys.on [] [((72,0),(1,g21_r))]
def spec_l00Src_pick_o30 (a1:List Bt) (a2:Int) (a3:Int) (a4:Int):Option (List Bt×Int×Int×Int):=if a4≤1 then some (a1,a2,a3,0) else (spec_l00Src_next_o9d a1 a2 a3).bind fun r1=>if a4 > 200 then (spec_l00Src_next_o9d r1.1 r1.2.1 r1.2.2.1).bind fun r2=>if a4=0 then none else some (r2.1,r2.2.1,r2.2.2.1,(Int.tmod ((IntKind.i64.wrap ((IntKind.i64.wrap (r1.2.2.2 * 256))+r2.2.2.2))) a4)) else if a4=0 then none else some (r1.1,r1.2.1,r1.2.2.1,(Int.tmod r1.2.2.2 a4))
@[simp] def g22_O:(List Bt×Int×Int×Int)→TV×List Blk:=fun r=>((.int .i64 r.2.2.2),[(.live 3 [[(.vs (rows r.1)),(.int .i64 r.2.1),(.int .u64 r.2.2.1)]])])
abbrev g22_T:=List Bt×Int×Int×Int
def g22_E (a:g22_T):List TV:=[(.ptr 0 0 0),(.int .i64 a.2.2.2)]
def g22_B (a:g22_T):List Blk:=[(.live 3 [[(.vs (rows a.1)),(.int .i64 a.2.1),(.int .u64 a.2.2.1)]])]
theorem g22_run (a1:List Bt) (a2:Int) (a3:Int) (a4:Int) :callFn (X g22_S) g22_tf (g22_E (a1,a2,a3,a4)) (g22_B (a1,a2,a3,a4))=(spec_l00Src_pick_o30 a1 a2 a3 a4).map g22_O:=by
  rw [callFn_eq]
  simp (maxSteps:=2000000) (maxDischargeDepth:=8) -implicitDefEqProofs [g22_tf,spec_l00Src_pick_o30,g22_E,g22_B] <;> (try simp only [map_to_bind,some_elim,g22_O])
def g22_r:MRule:=RmO g22_E g22_B (fun a=>spec_l00Src_pick_o30 a.1 a.2.1 a.2.2.1 a.2.2.2) g22_O
theorem g22_ok:MRuleOk Tryd.prog 37 1 g22_r:=ok_rmo (S:=g22_S) (tf:=g22_tf) (SysOk.on trivial ⟨g21_ok,trivial⟩) (trE_ok (ks:=[]) Tryd.func37 (by kernel_rfl)) (by rfl) (fun _=>by simp [g22_B]) (fun _=>by simp) fun a=>g22_run a.1 a.2.1 a.2.2.1 a.2.2.2
@[simp] theorem g22_app (y0 y1 y2 y3):g22_r [(.ptr 0 0 0),(.int .i64 y3)] [(.live 3 [[(.vs (rows y0)),(.int .i64 y1),(.int .u64 y2)]])]=(spec_l00Src_pick_o30 y0 y1 y2 y3).map g22_O:=by
  exact RmO_app (enc:=g22_E) (encB:=g22_B) (by intro a b h h2;simp [g22_E,g22_B,Prod.ext_iff] at h h2 ⊢;simp [h,h2]) (y0,y1,y2,y3)
/-! (*spec.l00Src).among -/
def g15_tf:TFn:=⟨(sq [mk 4 (ki 0)] [0,1] (.seq (.ops [mo 5 1,mo 6 0,mo 7 1,le 8 7,oo 9 (.callM 37 0 [0] [.t 6,.t 8]),ia 10 1 5 9,ld 11 10,mo 4 11]) (.keep (kp [(4,0)] [(0,0),(1,0)] 2) .ret))),[.t 4]⟩
abbrev g15_S:=Sys.on [] [((37,0),(1,g22_r))]
def spec_l00Src_among_o72 (a1:List Bt) (a2:Int) (a3:Int) (a4:List Int):Option (List Bt×Int×Int×List Int×Int):=(spec_l00Src_pick_o30 a1 a2 a3 (((a4.length:Nat):Int))).bind fun r1=>if 0≤r1.2.2.2∧r1.2.2.2 < ((a4.length:Nat):Int) then (a4[(r1.2.2.2).toNat]?).bind fun x2=>some (r1.1,r1.2.1,r1.2.2.1,a4,x2) else none
@[simp] def g15_O:(List Bt×Int×Int×List Int×Int)→TV×List Blk:=fun r=>((.int .i64 r.2.2.2.2),[(.live 3 [[(.vs (rows r.1)),(.int .i64 r.2.1),(.int .u64 r.2.2.1)]]),(.live 1 (rows r.2.2.2.1))])
abbrev g15_T:=List Bt×Int×Int×List Int
def g15_E (a:g15_T):List TV:=[(.ptr 0 0 0),(.hs 1 0 a.2.2.2.length true)]
def g15_B (a:g15_T):List Blk:=[(.live 3 [[(.vs (rows a.1)),(.int .i64 a.2.1),(.int .u64 a.2.2.1)]]),(.live 1 (rows a.2.2.2))]
theorem g15_run (a1:List Bt) (a2:Int) (a3:Int) (a4:List Int) :callFn (X g15_S) g15_tf (g15_E (a1,a2,a3,a4)) (g15_B (a1,a2,a3,a4))=(spec_l00Src_among_o72 a1 a2 a3 a4).map g15_O:=by
  rw [callFn_eq]
  simp (maxSteps:=2000000) (maxDischargeDepth:=8) -implicitDefEqProofs [g15_tf,spec_l00Src_among_o72,g15_E,g15_B] <;> (try simp only [map_to_bind,some_elim,g15_O])
def g15_r:MRule:=RmO g15_E g15_B (fun a=>(spec_l00Src_among_o72 a.1 a.2.1 a.2.2.1 a.2.2.2).bind fun r=>if r.2.2.2.1.length=a.2.2.2.length then some (r.1,r.2.1,r.2.2.1,(fixLen a.2.2.2 r.2.2.2.1),r.2.2.2.2) else none) g15_O
theorem g15_ok0:MRuleOk Tryd.prog 76 2 (RmO g15_E g15_B (fun a=>spec_l00Src_among_o72 a.1 a.2.1 a.2.2.1 a.2.2.2) g15_O):=ok_rmo (S:=g15_S) (tf:=g15_tf) (SysOk.on trivial ⟨g22_ok,trivial⟩) (trE_ok (ks:=[]) Tryd.func76 (by kernel_rfl)) (by rfl) (fun _=>by simp [g15_B]) (fun _=>by simp) fun a=>g15_run a.1 a.2.1 a.2.2.1 a.2.2.2
theorem g15_ok:MRuleOk Tryd.prog 76 2 g15_r:=g15_ok0.weak fun a r hr=>by
  simp only [Option.bind_eq_some_iff] at hr
  obtain ⟨x,h1,h2⟩:=hr
  split at h2
  · rename_i hc
    simp only [Option.some.injEq] at h2
    rw [h1,← h2]
    simp [fixLen,hc]
  · cases h2
@[simp] theorem g15_app (y0 y1 y2)(y3:List Int){n1:Nat}(h1:n1=y3.length):g15_r [(.ptr 0 0 0),(.hs 1 0 n1 true)] [(.live 3 [[(.vs (rows y0)),(.int .i64 y1),(.int .u64 y2)]]),(.live 1 (rows y3))]=((spec_l00Src_among_o72 y0 y1 y2 y3).bind fun r=>if r.2.2.2.1.length=y3.length then some (r.1,r.2.1,r.2.2.1,(fixLen y3 r.2.2.2.1),r.2.2.2.2) else none).map g15_O:=by
  subst h1
  exact RmO_app (enc:=g15_E) (encB:=g15_B) (by intro a b h h2;simp [g15_E,g15_B,Prod.ext_iff] at h h2 ⊢;simp [h,h2]) (y0,y1,y2,y3)
/-! (*spec.l00Src).one -/
def g25_tf:TFn:=⟨(sq [mk 4 (kb false)] [0,1] (.seq (.ops [mo 5 0,mo 6 1,oo 7 (.callM 37 0 [0] [.t 5,.t 6]),bn 8 .eql (.t 7) (ki 0),mo 4 8]) (.keep (kp [(4,0)] [(0,0)] 1) .ret))),[.t 4]⟩
abbrev g25_S:=Sys.on [] [((37,0),(1,g22_r))]
def spec_l00Src_one_o30 (a1:List Bt) (a2:Int) (a3:Int) (a4:Int):Option (List Bt×Int×Int×Bool):=(spec_l00Src_pick_o30 a1 a2 a3 a4).bind fun r1=>some (r1.1,r1.2.1,r1.2.2.1,(decide (r1.2.2.2=0)))
@[simp] def g25_O:(List Bt×Int×Int×Bool)→TV×List Blk:=fun r=>((.bool r.2.2.2),[(.live 3 [[(.vs (rows r.1)),(.int .i64 r.2.1),(.int .u64 r.2.2.1)]])])
abbrev g25_T:=List Bt×Int×Int×Int
def g25_E (a:g25_T):List TV:=[(.ptr 0 0 0),(.int .i64 a.2.2.2)]
def g25_B (a:g25_T):List Blk:=[(.live 3 [[(.vs (rows a.1)),(.int .i64 a.2.1),(.int .u64 a.2.2.1)]])]
theorem g25_run (a1:List Bt) (a2:Int) (a3:Int) (a4:Int) :callFn (X g25_S) g25_tf (g25_E (a1,a2,a3,a4)) (g25_B (a1,a2,a3,a4))=(spec_l00Src_one_o30 a1 a2 a3 a4).map g25_O:=by
  rw [callFn_eq]
  simp (maxSteps:=2000000) (maxDischargeDepth:=8) -implicitDefEqProofs [g25_tf,spec_l00Src_one_o30,g25_E,g25_B] <;> (try simp only [map_to_bind,some_elim,g25_O])
def g25_r:MRule:=RmO g25_E g25_B (fun a=>spec_l00Src_one_o30 a.1 a.2.1 a.2.2.1 a.2.2.2) g25_O
theorem g25_ok:MRuleOk Tryd.prog 40 1 g25_r:=ok_rmo (S:=g25_S) (tf:=g25_tf) (SysOk.on trivial ⟨g22_ok,trivial⟩) (trE_ok (ks:=[]) Tryd.func40 (by kernel_rfl)) (by rfl) (fun _=>by simp [g25_B]) (fun _=>by simp) fun a=>g25_run a.1 a.2.1 a.2.2.1 a.2.2.2
@[simp] theorem g25_app (y0 y1 y2 y3):g25_r [(.ptr 0 0 0),(.int .i64 y3)] [(.live 3 [[(.vs (rows y0)),(.int .i64 y1),(.int .u64 y2)]])]=(spec_l00Src_one_o30 y0 y1 y2 y3).map g25_O:=by
  exact RmO_app (enc:=g25_E) (encB:=g25_B) (by intro a b h h2;simp [g25_E,g25_B,Prod.ext_iff] at h h2 ⊢;simp [h,h2]) (y0,y1,y2,y3)
/-! spec.l18Draw -/
def g40p1_c:TC:=(.cond (.t 22) (.after (.ops [mo 25 0,oo 26 (.callM 40 0 [0] [.t 25,ki 2]),fa 27 2 3,⟨none,none,(.store 1 (.t 27) (.t 26))⟩]) (kp [(2,0),(3,0)] [(0,0),(1,0),(2,0)] 1)) (.keep (kp [(2,0),(3,0)] [(0,0),(1,0),(2,0)] 1) .skip))
def g40_tf:TFn:=⟨(sq [oo 2 (.alloc [(.int .i64 0),(.int .i64 0),(.bool false)])] [0,2] (sq [mo 4 0,oo 5 (.callM 37 0 [0] [.t 4,ki 5]),bn 6 .add (ki 1) (.t 5),oo 7 (.build [(.int .i64 0),(.int .i64 0),(.bool false)] [(0,1,(.t 6))]),oo 3 (.alloc [(.int .i64 0),(.int .i64 0),(.bool false)]),⟨none,none,(.store 3 (.t 3) (.t 7))⟩] [0,2,3] (.seq (sq [fa 8 0 3,ld 9 8] [0,2,3,9] (.block 0 (sq [bn 11 .eql (.t 9) (ki 1),mo 10 11] [0,2,3,9,10] (.cond (.t 10) (.after (.ops [mo 12 0,oo 13 (.bslice [(.int .i64 0)] 6 [(0,(ki 1)),(1,(ki 2)),(2,(ki 3)),(3,(ki 4)),(4,(ki 8)),(5,(ki 24))]),oo 14 (.callM 76 0 [0,3] [.t 12,.t 13]),fa 15 1 3,⟨none,none,(.store 1 (.t 15) (.t 14))⟩]) (kp [(2,0),(3,0)] [(0,0),(1,0),(2,0)] 1)) (sq [bn 17 .eql (.t 9) (ki 2),mo 16 17] [0,2,3,9,16] (.cond (.t 16) (.after (.ops [mo 18 0,oo 19 (.bslice [(.int .i64 0)] 3 [(0,(ki 1)),(1,(ki 2)),(2,(ki 4))]),oo 20 (.callM 76 0 [0,3] [.t 18,.t 19]),fa 21 1 3,⟨none,none,(.store 1 (.t 21) (.t 20))⟩]) (kp [(2,0),(3,0)] [(0,0),(1,0),(2,0)] 1)) (.seq (sq [bn 23 .eql (.t 9) (ki 3),mo 22 23] [0,2,3,9,22] (.cond (.t 22) (.keep (kp [(0,0),(2,0),(3,0),(22,0)] [(0,0),(1,0),(2,0)] 1) .skip) (.after (.ops [bn 24 .eql (.t 9) (ki 4),mo 22 24]) (kp [(0,0),(2,0),(3,0),(22,0)] [(0,0),(1,0),(2,0)] 1)))) (.trim [0,2,3,22] g40p1_c)))))))) (.trim [2,3] (.seq (.ops [ln 28 3 3,⟨none,none,(.store 3 (.t 2) (.t 28))⟩]) (.keep (kp [(2,0)] [(0,0),(1,0)] 1) .ret)))))),[.cell 2 (some 3)]⟩
abbrev g40_S:=Sys.on [] [((37,0),(1,g22_r)),((76,0),(2,g15_r)),((40,0),(1,g25_r))]
@[reducible,simp] def g40p1_F:(List Bt×Int×Int×(Int×Int×Bool)×(Int×Int×Bool))→Out:=(fun t=>(.nrm,[(2,(.ptr 1 0 0)),(3,(.ptr 2 0 0))],[(.live 3 [[(.vs (rows t.1)),(.int .i64 t.2.1),(.int .u64 t.2.2.1)]]),(.live 3 [[(.int .i64 t.2.2.2.1.1),(.int .i64 t.2.2.2.1.2.1),(.bool t.2.2.2.1.2.2)]]),(.live 3 [[(.int .i64 t.2.2.2.2.1),(.int .i64 t.2.2.2.2.2.1),(.bool t.2.2.2.2.2.2)]])]))
def spec_l18Draw_o9d_p1 (v4:List Bt) (v5:Int) (v6:Int) (v7:Int×Int×Bool) (v8:Int×Int×Bool) (v9:Bool):Option (List Bt×Int×Int×(Int×Int×Bool)×(Int×Int×Bool)):=if v9=true then (spec_l00Src_one_o30 v4 v5 v6 2).bind fun r10=>some ((r10.1,r10.2.1,r10.2.2.1,v7,(v8.1,v8.2.1,r10.2.2.2))) else some ((v4,v5,v6,v7,v8))
@[simp] theorem g40p1_eq (y0 y1 y2 y3 y4 y5 y6 y7 y8 y9):X g40_S g40p1_c [(0,(.ptr 0 0 0)),(2,(.ptr 1 0 0)),(3,(.ptr 2 0 0)),(22,(.bool y9))] [(.live 3 [[(.vs (rows y0)),(.int .i64 y1),(.int .u64 y2)]]),(.live 3 [[(.int .i64 y3),(.int .i64 y4),(.bool y5)]]),(.live 3 [[(.int .i64 y6),(.int .i64 y7),(.bool y8)]])]=(spec_l18Draw_o9d_p1 y0 y1 y2 ((y3,y4,y5)) ((y6,y7,y8)) y9).map g40p1_F:=by
  simp (maxSteps:=2000000) (maxDischargeDepth:=8) -implicitDefEqProofs [g40p1_c,spec_l18Draw_o9d_p1,bslV_lit (α:=Int) (zs:=[(.int .i64 0)])] <;> (try simp only [map_to_bind,some_elim,g40p1_F])
def spec_l18Draw_o9d (a1:List Bt) (a2:Int) (a3:Int):Option (List Bt×Int×Int×(Int×Int×Bool)):=(spec_l00Src_pick_o30 a1 a2 a3 5).bind fun r1=>if (IntKind.i64.wrap (1+r1.2.2.2))=1 then (spec_l00Src_among_o72 r1.1 r1.2.1 r1.2.2.1 ((lit [1,2,3,4,8,24]:List Int))).bind fun r2=>if r2.2.2.2.1.length=((lit [1,2,3,4,8,24]:List Int)).length then some (r2.1,r2.2.1,r2.2.2.1,((IntKind.i64.wrap (1+r1.2.2.2)),r2.2.2.2.2,false)) else none else if (IntKind.i64.wrap (1+r1.2.2.2))=2 then (spec_l00Src_among_o72 r1.1 r1.2.1 r1.2.2.1 ((lit [1,2,4]:List Int))).bind fun r3=>if r3.2.2.2.1.length=((lit [1,2,4]:List Int)).length then some (r3.1,r3.2.1,r3.2.2.1,((IntKind.i64.wrap (1+r1.2.2.2)),r3.2.2.2.2,false)) else none else if (IntKind.i64.wrap (1+r1.2.2.2))=3 then (spec_l18Draw_o9d_p1 r1.1 r1.2.1 r1.2.2.1 ((0,0,false)) (((IntKind.i64.wrap (1+r1.2.2.2)),0,false)) ((decide ((IntKind.i64.wrap (1+r1.2.2.2))=3)))).bind fun r11=>some (r11.1,r11.2.1,r11.2.2.1,r11.2.2.2.2) else (spec_l18Draw_o9d_p1 r1.1 r1.2.1 r1.2.2.1 ((0,0,false)) (((IntKind.i64.wrap (1+r1.2.2.2)),0,false)) ((decide ((IntKind.i64.wrap (1+r1.2.2.2))=4)))).bind fun r12=>some (r12.1,r12.2.1,r12.2.2.1,r12.2.2.2.2)
@[simp] def g40_O:(List Bt×Int×Int×(Int×Int×Bool))→TV×List Blk:=fun r=>((.agg [(.int .i64 r.2.2.2.1),(.int .i64 r.2.2.2.2.1),(.bool r.2.2.2.2.2)]),[(.live 3 [[(.vs (rows r.1)),(.int .i64 r.2.1),(.int .u64 r.2.2.1)]]),(.live 3 [[(.int .i64 r.2.2.2.1),(.int .i64 r.2.2.2.2.1),(.bool r.2.2.2.2.2)]])])
abbrev g40_T:=List Bt×Int×Int
def g40_E (a:g40_T):List TV:=[(.ptr 0 0 0)]
def g40_B (a:g40_T):List Blk:=[(.live 3 [[(.vs (rows a.1)),(.int .i64 a.2.1),(.int .u64 a.2.2)]])]
theorem g40_run (a1:List Bt) (a2:Int) (a3:Int) :callFn (X g40_S) g40_tf (g40_E (a1,a2,a3)) (g40_B (a1,a2,a3))=(spec_l18Draw_o9d a1 a2 a3).map g40_O:=by
  rw [callFn_eq]
  simp (maxSteps:=2000000) (maxDischargeDepth:=8) -implicitDefEqProofs [g40_tf,spec_l18Draw_o9d,g40_E,g40_B,bslV_lit (α:=Int) (zs:=[(.int .i64 0)])] <;> (try simp only [map_to_bind,some_elim,g40_O])
def g40_r:MRule:=RmO g40_E g40_B (fun a=>spec_l18Draw_o9d a.1 a.2.1 a.2.2) g40_O
theorem g40_ok:MRuleOk Tryd.prog 55 1 g40_r:=ok_rmo (S:=g40_S) (tf:=g40_tf) (SysOk.on trivial ⟨g22_ok,g15_ok,g25_ok,trivial⟩) (trE_ok (ks:=[]) Tryd.func55 (by kernel_rfl)) (by rfl) (fun _=>by simp [g40_B]) (fun _=>by simp) fun a=>g40_run a.1 a.2.1 a.2.2
@[simp] theorem g40_app (y0 y1 y2):g40_r [(.ptr 0 0 0)] [(.live 3 [[(.vs (rows y0)),(.int .i64 y1),(.int .u64 y2)]])]=(spec_l18Draw_o9d y0 y1 y2).map g40_O:=by
  exact RmO_app (enc:=g40_E) (encB:=g40_B) (by intro a b h h2;simp [g40_E,g40_B,Prod.ext_iff] at h h2 ⊢;simp [h,h2]) (y0,y1,y2)
/-! spec.l19Draw -/
def g41l1_cb:TC:=(.seq (sq [mo 8 4,bn 9 .gtr (.t 8) (ki 0)] [0,3,4,9] (.cond (.t 9) .skip (.keep (kp [(3,1)] [(0,0),(1,1)] 1) (.exit 0)))) (.trim [0,3,4] (.seq (.block 1 (.ops [mo 12 3,mo 13 0,oo 14 (.callM 55 0 [0] [.t 13]),oo 15 (.bslice [(.int .i64 0),(.int .i64 0),(.bool false)] 1 [(0,(.t 14))]),oo 16 (.append 55 3 24 (.t 12) (.t 15)),mo 3 16])) (.trim [0,3,4] (.after (.ops [mo 10 4,bn 11 .sub (.t 10) (ki 1),mo 4 11]) (kp [(0,0),(3,1),(4,0)] [(0,0),(4,1)] 1))))))
def g41l1_c:TC:=.loop [0,3,4] g41l1_cb
def g41_tf:TFn:=⟨(sq [mk 2 (.c .nils)] [0] (sq [oo 5 (.bslice [(.int .i64 0),(.int .i64 0),(.bool false)] 0 []),mo 3 5] [0,3] (.seq (sq [mo 6 0,oo 7 (.callM 37 0 [0] [.t 6,ki 5]),mo 4 7] [0,3,4] (.block 0 (.keep (kp [(0,0),(3,1),(4,0)] [(0,0),(1000,1)] 1) g41l1_c))) (.trim [3] (.seq (.ops [mo 17 3,mo 2 17]) (.keep (kp [(2,1)] [(0,0),(1,1)] 1) .ret)))))),[.t 2]⟩
abbrev g41_S:=Sys.on [] [((37,0),(1,g22_r)),((55,0),(1,g40_r))]
@[reducible,simp] def g41l1_F:(List Bt×Int×Int×(List (Int×Int×Bool)))→Out:=(fun t=>(.ext 0,[(3,(ow 1 t.2.2.2.length))],[(.live 3 [[(.vs (rows t.1)),(.int .i64 t.2.1),(.int .u64 t.2.2.1)]]),(ob 3 t.2.2.2)]))
def spec_l19Draw_o9d_l1_b (v2:List Bt) (v3:Int) (v4:Int) (v5:List (Int×Int×Bool)) (v6:Int):Option ((List Bt×Int×Int×(List (Int×Int×Bool))×Int) ⊕ (List Bt×Int×Int×(List (Int×Int×Bool)))):=if v6 > 0 then (spec_l18Draw_o9d v2 v3 v4).bind fun r7=>(appL 24 v5 ((lit [(r7.2.2.2.1,r7.2.2.2.2.1,r7.2.2.2.2.2)]:List (Int×Int×Bool)))).bind fun l8=>some (.inl (r7.1,r7.2.1,r7.2.2.1,l8,(IntKind.i64.wrap (v6 - 1)))) else some (.inr (v2,v3,v4,v5))
theorem g41l1_b_eq  (v2:List Bt) (v3:Int) (v4:Int) (v5:List (Int×Int×Bool)) (v6:Int):X g41_S g41l1_cb (keepEnv [0,3,4] [(0,(.ptr 0 0 0)),(3,(ow 1 v5.length)),(4,(.int .i64 v6))]) [(.live 3 [[(.vs (rows v2)),(.int .i64 v3),(.int .u64 v4)]]),(ob 3 v5)]=(spec_l19Draw_o9d_l1_b v2 v3 v4 v5 v6).map (Sum.elim (fun s=>(TX.nrm,[(0,(.ptr 0 0 0)),(3,(ow 1 s.2.2.2.1.length)),(4,(.int .i64 s.2.2.2.2))],[(.live 3 [[(.vs (rows s.1)),(.int .i64 s.2.1),(.int .u64 s.2.2.1)]]),(ob 3 s.2.2.2.1)])) g41l1_F):=by
  simp (maxSteps:=2000000) (maxDischargeDepth:=8) -implicitDefEqProofs [g41l1_cb,spec_l19Draw_o9d_l1_b,bslV_lit (α:=Int×Int×Bool) (zs:=[(.int .i64 0),(.int .i64 0),(.bool false)])] <;> (try simp only [map_to_bind,some_elim,g41l1_F])
def spec_l19Draw_o9d_l1  (s:List Bt×Int×Int×(List (Int×Int×Bool))×Int):Option (List Bt×Int×Int×(List (Int×Int×Bool))):=loopO (fun s=>spec_l19Draw_o9d_l1_b  s.1 s.2.1 s.2.2.1 s.2.2.2.1 s.2.2.2.2) s
@[simp] theorem g41l1_eq (y0 y1 y2)(y3:List (Int×Int×Bool))(y4){n1:Nat}(h1:n1=y3.length):X g41_S g41l1_c [(0,(.ptr 0 0 0)),(3,(ow 1 n1)),(4,(.int .i64 y4))] [(.live 3 [[(.vs (rows y0)),(.int .i64 y1),(.int .u64 y2)]]),(ob 3 y3)]=(spec_l19Draw_o9d_l1  (y0,y1,y2,y3,y4)).map g41l1_F:=by
  subst h1
  exact loop_X _ _ _ _ (by intro r;first | (simp;done) | (rcases r with r | r <;> simp;done) | (rcases r with r | r | r <;> simp;done) | (rcases r with r | r | r | r <;> simp)) (fun s=>g41l1_b_eq   s.1 s.2.1 s.2.2.1 s.2.2.2.1 s.2.2.2.2) (y0,y1,y2,y3,y4)
@[simp] theorem g41l1_eq_3 (y0 y1 y2 y3):X g41_S g41l1_c [(0,(.ptr 0 0 0)),(3,.es),(4,(.int .i64 y3))] [(.live 3 [[(.vs (rows y0)),(.int .i64 y1),(.int .u64 y2)]]),.dead]=(spec_l19Draw_o9d_l1  (y0,y1,y2,([]:List (Int×Int×Bool)),y3)).map g41l1_F :=
  g41l1_eq  y0 y1 y2 ([]:List (Int×Int×Bool)) y3 rfl
def spec_l19Draw_o9d (a1:List Bt) (a2:Int) (a3:Int):Option (List Bt×Int×Int×(List (Int×Int×Bool))):=(spec_l00Src_pick_o30 a1 a2 a3 5).bind fun r1=>(spec_l19Draw_o9d_l1 ((r1.1,r1.2.1,r1.2.2.1,([]:List (Int×Int×Bool)),r1.2.2.2))).bind fun r9=>some (r9.1,r9.2.1,r9.2.2.1,r9.2.2.2)
@[simp] def g41_O:(List Bt×Int×Int×(List (Int×Int×Bool)))→TV×List Blk:=fun r=>((ow 1 r.2.2.2.length),[(.live 3 [[(.vs (rows r.1)),(.int .i64 r.2.1),(.int .u64 r.2.2.1)]]),(ob 3 r.2.2.2)])
abbrev g41_T:=List Bt×Int×Int
def g41_E (a:g41_T):List TV:=[(.ptr 0 0 0)]
def g41_B (a:g41_T):List Blk:=[(.live 3 [[(.vs (rows a.1)),(.int .i64 a.2.1),(.int .u64 a.2.2)]])]
theorem g41_run (a1:List Bt) (a2:Int) (a3:Int) :callFn (X g41_S) g41_tf (g41_E (a1,a2,a3)) (g41_B (a1,a2,a3))=(spec_l19Draw_o9d a1 a2 a3).map g41_O:=by
  rw [callFn_eq]
  simp (maxSteps:=2000000) (maxDischargeDepth:=8) -implicitDefEqProofs [g41_tf,spec_l19Draw_o9d,g41_E,g41_B,bslV_lit (α:=Int×Int×Bool) (zs:=[(.int .i64 0),(.int .i64 0),(.bool false)])] <;> (try simp only [map_to_bind,some_elim,g41_O])
def g41_r:MRule:=RmO g41_E g41_B (fun a=>spec_l19Draw_o9d a.1 a.2.1 a.2.2) g41_O
theorem g41_ok:MRuleOk Tryd.prog 24 1 g41_r:=ok_rmo (S:=g41_S) (tf:=g41_tf) (SysOk.on trivial ⟨g22_ok,g40_ok,trivial⟩) (trE_ok (ks:=[[0,3,4]]) Tryd.func24 (by kernel_rfl)) (by rfl) (fun _=>by simp [g41_B]) (fun _=>by simp) fun a=>g41_run a.1 a.2.1 a.2.2
@[simp] theorem g41_app (y0 y1 y2):g41_r [(.ptr 0 0 0)] [(.live 3 [[(.vs (rows y0)),(.int .i64 y1),(.int .u64 y2)]])]=(spec_l19Draw_o9d y0 y1 y2).map g41_O:=by
  exact RmO_app (enc:=g41_E) (encB:=g41_B) (by intro a b h h2;simp [g41_E,g41_B,Prod.ext_iff] at h h2 ⊢;simp [h,h2]) (y0,y1,y2)
/-! spec.E8Pipeline -/
def g45_tf:TFn:=⟨(sq [mk 2 (.c .nils)] [0] (sq [mo 4 0,ca 5 23 [.t 4],mo 3 5] [3] (.seq (.ops [mo 6 3,oo 7 (.callM 24 0 [0] [.t 6]),mo 2 7]) (.keep (kp [(2,1)] [(1,1)] 0) .ret)))),[.t 2]⟩
abbrev g45_S:=Sys.on [(23,g51_r)] [((24,0),(1,g41_r))]
def spec_E8Pipeline (a_code:List Bt):Option ((List (Int×Int×Bool))):=(spec_l00From a_code).bind fun r1=>(spec_l19Draw_o9d r1.1 r1.2.1 r1.2.2).bind fun r2=>some r2.2.2.2
@[simp] def g45_O:((List (Int×Int×Bool)))→TV×List Blk:=fun r=>((ow 0 r.length),[(ob 3 r)])
def g45_E (a:List Bt):List TV:=[(.vs (rows a))]
theorem g45_run (a_code:List Bt) :callFn (X g45_S) g45_tf (g45_E a_code) []=(spec_E8Pipeline a_code).map g45_O:=by
  rw [callFn_eq]
  simp (maxSteps:=2000000) (maxDischargeDepth:=8) -implicitDefEqProofs [g45_tf,spec_E8Pipeline,g45_E] <;> (try simp only [map_to_bind,some_elim,g45_O])
def g45_r:Rule:=RlO g45_E (fun a=>spec_E8Pipeline a) g45_O
theorem g45_ok:RuleOk Tryd.prog 5 g45_r:=ok_rlo (S:=g45_S) (tf:=g45_tf) (SysOk.on ⟨g51_ok,trivial⟩ ⟨g41_ok,trivial⟩) (trE_ok (ks:=[]) Tryd.func5 (by kernel_rfl)) fun a=>g45_run a
@[simp] theorem g45_app (y0):g45_r [(.vs (rows y0))]=(spec_E8Pipeline y0).map g45_O :=
  RlO_app (enc:=g45_E) (by intro a b h;simp [g45_E,Prod.ext_iff] at h ⊢;simp [h]) y0
/-! impl.within -/
def g58_tf:TFn:=⟨(sq [mk 6 (kb false)] [0,1,2] (.seq (.after (.ops [mo 7 0,mo 8 1,bn 9 .geq (.t 7) (.t 8),mo 10 9,⟨(some 11),(some (10,true)),(.mv (.t 0))⟩,⟨(some 12),(some (10,true)),(.mv (.t 2))⟩,⟨(some 13),(some (10,true)),(.bin .num .leq (.t 11) (.t 12))⟩,pk 14 (.t 10) (.t 13) (kb false),mo 6 14]) (kp [(6,0)] [] 0)) (.keep (kp [(6,0)] [] 0) .ret))),[.t 6]⟩
abbrev g58_S:=Sys.on [] []
def impl_within (a_n:Int) (a_low:Int) (a_high:Int):Option (Bool):=if a_n ≥ a_low then some ((decide (a_n≤a_high))) else some false
@[simp] def g58_O:Bool→TV×List Blk:=fun r=>((.bool r),[])
def g58_E (a:Int×Int×Int):List TV:=[(.int .i64 a.1),(.int .i64 a.2.1),(.int .i64 a.2.2)]
theorem g58_run (a_n:Int) (a_low:Int) (a_high:Int) :callFn (X g58_S) g58_tf (g58_E (a_n,a_low,a_high)) []=(impl_within a_n a_low a_high).map g58_O:=by
  rw [callFn_eq]
  simp (maxSteps:=2000000) (maxDischargeDepth:=8) -implicitDefEqProofs [g58_tf,impl_within,g58_E] <;> (try simp only [map_to_bind,some_elim,g58_O])
def g58_r:Rule:=RlO g58_E (fun a=>impl_within a.1 a.2.1 a.2.2) g58_O
theorem g58_ok:RuleOk Tryd.prog 67 g58_r:=ok_rlo (S:=g58_S) (tf:=g58_tf) (SysOk.on trivial trivial) (trE_ok (ks:=[]) Tryd.func67 (by kernel_rfl)) fun a=>g58_run a.1 a.2.1 a.2.2
@[simp] theorem g58_app (y0 y1 y2):g58_r [(.int .i64 y0),(.int .i64 y1),(.int .i64 y2)]=(impl_within y0 y1 y2).map g58_O :=
  RlO_app (enc:=g58_E) (by intro a b h;simp [g58_E,Prod.ext_iff] at h ⊢;simp [h]) (y0,y1,y2)
/-! impl.isWidth -/
def g52_tf:TFn:=⟨(sq [mk 2 (kb false)] [0] (.seq (.after (.ops [mo 3 0,bn 4 .eql (.t 3) (ki 1),mo 5 4,⟨(some 6),(some (5,false)),(.mv (.t 0))⟩,⟨(some 7),(some (5,false)),(.bin .num .eql (.t 6) (ki 2))⟩,pk 8 (.t 5) (kb true) (.t 7),mo 9 8,⟨(some 10),(some (9,false)),(.mv (.t 0))⟩,⟨(some 11),(some (9,false)),(.bin .num .eql (.t 10) (ki 4))⟩,pk 12 (.t 9) (kb true) (.t 11),mo 2 12]) (kp [(2,0)] [] 0)) (.keep (kp [(2,0)] [] 0) .ret))),[.t 2]⟩
abbrev g52_S:=Sys.on [] []
def impl_isWidth (a_width:Int):Option (Bool):=if a_width=1 then some true else if a_width=2 then some true else some ((decide (a_width=4)))
@[simp] def g52_O:Bool→TV×List Blk:=fun r=>((.bool r),[])
def g52_E (a:Int):List TV:=[(.int .i64 a)]
theorem g52_run (a_width:Int) :callFn (X g52_S) g52_tf (g52_E a_width) []=(impl_isWidth a_width).map g52_O:=by
  rw [callFn_eq]
  simp (maxSteps:=2000000) (maxDischargeDepth:=8) -implicitDefEqProofs [g52_tf,impl_isWidth,g52_E] <;> (try simp only [map_to_bind,some_elim,g52_O])
def g52_r:Rule:=RlO g52_E (fun a=>impl_isWidth a) g52_O
theorem g52_ok:RuleOk Tryd.prog 68 g52_r:=ok_rlo (S:=g52_S) (tf:=g52_tf) (SysOk.on trivial trivial) (trE_ok (ks:=[]) Tryd.func68 (by kernel_rfl)) fun a=>g52_run a
@[simp] theorem g52_app (y0):g52_r [(.int .i64 y0)]=(impl_isWidth y0).map g52_O :=
  RlO_app (enc:=g52_E) (by intro a b h;simp [g52_E,Prod.ext_iff] at h ⊢;simp [h]) y0
/-! impl.ValidFilter -/
def g42p1_c:TC:=(.cond (.t 25) (.seq (.ops [fa 28 1 1,ld 29 28,bn 30 .eql (.t 29) (ki 0),mo 2 30]) (.keep (kp [(2,0)] [] 0) .ret)) (.keep (kp [(1,0)] [(0,0)] 0) .skip))
def g42p2_c:TC:=(.seq (.after (.ops [fa 31 0 1,ld 32 31,bn 33 .eql (.t 32) (ki 5),mo 34 33,⟨(some 35),(some (34,true)),(.faddr 1 (.t 1))⟩,⟨(some 36),(some (34,true)),(.load none (.t 35))⟩,⟨(some 37),(some (34,true)),(.bin .num .eql (.t 36) (ki 0))⟩,pk 38 (.t 34) (.t 37) (kb false),mo 39 38,⟨(some 40),(some (39,true)),(.faddr 2 (.t 1))⟩,⟨(some 41),(some (39,true)),(.load none (.t 40))⟩,⟨(some 42),(some (39,true)),(.un .not (.t 41))⟩,pk 43 (.t 39) (.t 42) (kb false),mo 2 43]) (kp [(2,0)] [] 0)) (.keep (kp [(2,0)] [] 0) .ret))
def g42_tf:TFn:=⟨(sq [bx 1 0,mk 2 (kb false)] [1] (.seq (sq [fa 3 0 1,ld 4 3] [1,4] (.block 0 (sq [bn 6 .eql (.t 4) (ki 1),mo 5 6] [1,4,5] (.cond (.t 5) (.seq (.after (.ops [fa 7 1 1,ld 8 7,ca 9 67 [.t 8,ki 1,ki 24],mo 10 9,⟨(some 11),(some (10,true)),(.faddr 2 (.t 1))⟩,⟨(some 12),(some (10,true)),(.load none (.t 11))⟩,⟨(some 13),(some (10,true)),(.un .not (.t 12))⟩,pk 14 (.t 10) (.t 13) (kb false),mo 2 14]) (kp [(2,0)] [] 0)) (.keep (kp [(2,0)] [] 0) .ret)) (sq [bn 16 .eql (.t 4) (ki 2),mo 15 16] [1,4,15] (.cond (.t 15) (.seq (.after (.ops [fa 17 1 1,ld 18 17,ca 19 68 [.t 18],mo 20 19,⟨(some 21),(some (20,true)),(.faddr 2 (.t 1))⟩,⟨(some 22),(some (20,true)),(.load none (.t 21))⟩,⟨(some 23),(some (20,true)),(.un .not (.t 22))⟩,pk 24 (.t 20) (.t 23) (kb false),mo 2 24]) (kp [(2,0)] [] 0)) (.keep (kp [(2,0)] [] 0) .ret)) (.seq (sq [bn 26 .eql (.t 4) (ki 3),mo 25 26] [1,4,25] (.cond (.t 25) (.keep (kp [(1,0),(25,0)] [(0,0)] 0) .skip) (.after (.ops [bn 27 .eql (.t 4) (ki 4),mo 25 27]) (kp [(1,0),(25,0)] [(0,0)] 0)))) (.trim [1,25] g42p1_c)))))))) (.trim [1] g42p2_c))),[.t 2]⟩
abbrev g42_S:=Sys.on [(67,g58_r),(68,g52_r)] []
@[reducible,simp] def g42p1_F:((Bool) ⊕ ((Int×Int×Bool)))→Out:=(Sum.elim (fun t=>(.ret,[(2,(.bool t))],[])) (fun t=>(.nrm,[(1,(.ptr 0 0 0))],[(.live 3 [[(.int .i64 t.1),(.int .i64 t.2.1),(.bool t.2.2)]])])))
def impl_ValidFilter_p1 (v3:Int×Int×Bool) (v4:Bool):Option ((Bool) ⊕ ((Int×Int×Bool))):=if v4=true then some ((.inl ((decide (v3.2.1=0))))) else some ((.inr v3))
@[simp] theorem g42p1_eq (y0 y1 y2 y3):X g42_S g42p1_c [(1,(.ptr 0 0 0)),(25,(.bool y3))] [(.live 3 [[(.int .i64 y0),(.int .i64 y1),(.bool y2)]])]=(impl_ValidFilter_p1 ((y0,y1,y2)) y3).map g42p1_F:=by
  simp (maxSteps:=2000000) (maxDischargeDepth:=8) -implicitDefEqProofs [g42p1_c,impl_ValidFilter_p1] <;> (try simp only [map_to_bind,some_elim,g42p1_F])
@[reducible,simp] def g42p2_F:Bool→Out:=(fun t=>(.ret,[(2,(.bool t))],[]))
def impl_ValidFilter_p2 (v11:Int×Int×Bool):Option (Bool):=if v11.1=5 then if v11.2.1=0 then some (((!v11.2.2))) else some false else some false
@[simp] theorem g42p2_eq (y0 y1 y2):X g42_S g42p2_c [(1,(.ptr 0 0 0))] [(.live 3 [[(.int .i64 y0),(.int .i64 y1),(.bool y2)]])]=(impl_ValidFilter_p2 ((y0,y1,y2))).map g42p2_F:=by
  simp (maxSteps:=2000000) (maxDischargeDepth:=8) -implicitDefEqProofs [g42p2_c,impl_ValidFilter_p2] <;> (try simp only [map_to_bind,some_elim,g42p2_F])
def impl_ValidFilter (a_f:Int×Int×Bool):Option (Bool):=if a_f.1=1 then (impl_within a_f.2.1 1 24).bind fun r1=>if r1=true then some ((!a_f.2.2)) else some false else if a_f.1=2 then (impl_isWidth a_f.2.1).bind fun r2=>if r2=true then some ((!a_f.2.2)) else some false else if a_f.1=3 then (impl_ValidFilter_p1 a_f ((decide (a_f.1=3)))).bind fun r5=>Sum.elim (fun u6=>some u6) (fun u7=>(impl_ValidFilter_p2 u7).bind fun r12=>some r12) r5 else (impl_ValidFilter_p1 a_f ((decide (a_f.1=4)))).bind fun r8=>Sum.elim (fun u9=>some u9) (fun u10=>(impl_ValidFilter_p2 u10).bind fun r13=>some r13) r8
@[simp] def g42_O:Bool→TV×List Blk:=fun r=>((.bool r),[])
def g42_E (a:(Int×Int×Bool)):List TV:=[(.agg [(.int .i64 a.1),(.int .i64 a.2.1),(.bool a.2.2)])]
theorem g42_run (a_f:Int×Int×Bool) :callFn (X g42_S) g42_tf (g42_E a_f) []=(impl_ValidFilter a_f).map g42_O:=by
  rw [callFn_eq]
  simp (maxSteps:=2000000) (maxDischargeDepth:=8) -implicitDefEqProofs [g42_tf,impl_ValidFilter,g42_E] <;> (try simp only [map_to_bind,some_elim,g42_O])
def g42_r:Rule:=RlO g42_E (fun a=>impl_ValidFilter a) g42_O
theorem g42_ok:RuleOk Tryd.prog 33 g42_r:=ok_rlo (S:=g42_S) (tf:=g42_tf) (SysOk.on ⟨g58_ok,g52_ok,trivial⟩ trivial) (trE_ok (ks:=[]) Tryd.func33 (by kernel_rfl)) fun a=>g42_run a
@[simp] theorem g42_app (y0 y1 y2):g42_r [(.agg [(.int .i64 y0),(.int .i64 y1),(.bool y2)])]=(impl_ValidFilter ((y0,y1,y2))).map g42_O :=
  RlO_app (enc:=g42_E) (by intro a b h;simp [g42_E,Prod.ext_iff] at h ⊢;simp [h]) ((y0,y1,y2))
/-! impl.ValidPipeline.1 -/
def g16_tf:TFn:=⟨(sq [bx 1 0,mk 2 (kb false)] [1] (.seq (.ops [ln 3 3 1,ca 4 33 [.t 3],nt 5 4,mo 2 5]) (.keep (kp [(2,0)] [] 0) .ret))),[.t 2]⟩
abbrev g16_S:=Sys.on [(33,g42_r)] []
def impl_ValidPipeline_c1 (a_f:Int×Int×Bool):Option (Bool):=(impl_ValidFilter a_f).bind fun r1=>some ((!r1))
@[simp] def g16_O:Bool→TV×List Blk:=fun r=>((.bool r),[])
def g16_E (a:(Int×Int×Bool)):List TV:=[(.agg [(.int .i64 a.1),(.int .i64 a.2.1),(.bool a.2.2)])]
theorem g16_run (a_f:Int×Int×Bool) :callFn (X g16_S) g16_tf (g16_E a_f) []=(impl_ValidPipeline_c1 a_f).map g16_O:=by
  rw [callFn_eq]
  simp (maxSteps:=2000000) (maxDischargeDepth:=8) -implicitDefEqProofs [g16_tf,impl_ValidPipeline_c1,g16_E] <;> (try simp only [map_to_bind,some_elim,g16_O])
def g16_r:Rule:=RlO g16_E (fun a=>impl_ValidPipeline_c1 a) g16_O
theorem g16_ok:RuleOk Tryd.prog 32 g16_r:=ok_rlo (S:=g16_S) (tf:=g16_tf) (SysOk.on ⟨g42_ok,trivial⟩ trivial) (trE_ok (ks:=[]) Tryd.func32 (by kernel_rfl)) fun a=>g16_run a
@[simp] theorem g16_app (y0 y1 y2):g16_r [(.agg [(.int .i64 y0),(.int .i64 y1),(.bool y2)])]=(impl_ValidPipeline_c1 ((y0,y1,y2))).map g16_O :=
  RlO_app (enc:=g16_E) (by intro a b h;simp [g16_E,Prod.ext_iff] at h ⊢;simp [h]) ((y0,y1,y2))
/-! slices.IndexFunc[[]impl.Filter,impl.Filter] -/
def g1l1_cb:TC:=(sq [bn 9 .lss (.t 8) (.t 7)] [0,1,7,8,9] (.seq (.cond (.t 9) .skip (.keep (kp [] [] 0) (.exit 0))) (.trim [0,1,7,8] (.seq (.block 1 (sq [mo 10 8,mo 5 10] [0,1,5,7,8] (sq [mo 11 1,mo 12 0,mo 13 5,ia 14 3 12 13,ln 15 3 14,oo 16 (.callv (.t 11) [.t 15])] [0,1,5,7,8,16] (.cond (.t 16) (.seq (.ops [mo 17 5,mo 4 17]) (.keep (kp [(4,0)] [] 0) .ret)) .skip)))) (.trim [0,1,7,8] (.after (.ops [bn 18 .add (.t 8) (ki 1),mo 8 18]) (kp [(0,0),(1,0),(7,0),(8,0)] [] 0)))))))
def g1l1_c:TC:=.loop [0,1,7,8] g1l1_cb
def g1_tf:TFn:=⟨(sq [mk 4 (ki 0)] [0,1] (.seq (sq [mo 6 0,le 7 6,mk 8 (ki 0)] [0,1,7,8] (.block 0 (.keep (kp [(0,0),(1,0),(7,0),(8,0)] [] 0) g1l1_c))) (.trim [] (.seq (.ops [mk 4 (ki (-1))]) (.keep (kp [(4,0)] [] 0) .ret))))),[.t 4]⟩
abbrev g1_S:=Sys.on [(32,g16_r)] []
@[reducible,simp] def g1l1_F:((Unit) ⊕ (Int))→Out:=(Sum.elim (fun t=>(.ext 0,[],[])) (fun t=>(.ret,[(4,(.int .i64 t))],[])))
def slices_IndexFunc_impl_Filter_impl_Filter__ValidPipeline_c1_l1_b (v1:List (Int×Int×Bool)) (v2:Int) (v3:Int):Option ((Int) ⊕ ((Unit) ⊕ (Int))):=if v3 < v2 then if 0≤v3 then (v1[(v3).toNat]?).bind fun x4=>(impl_ValidPipeline_c1 x4).bind fun r5=>if r5=true then some (.inr (.inr v3)) else some (.inl ((IntKind.i64.wrap (v3+1)))) else none else some (.inr (.inl ()))
theorem g1l1_b_eq  (v1:List (Int×Int×Bool)) (v2:Int) (v3:Int):X g1_S g1l1_cb (keepEnv [0,1,7,8] [(0,(.vs (rows v1))),(1,(.fn 32 [] [])),(7,(.int .i64 v2)),(8,(.int .i64 v3))]) []=(slices_IndexFunc_impl_Filter_impl_Filter__ValidPipeline_c1_l1_b v1 v2 v3).map (Sum.elim (fun s=>(TX.nrm,[(0,(.vs (rows v1))),(1,(.fn 32 [] [])),(7,(.int .i64 v2)),(8,(.int .i64 s))],[])) g1l1_F):=by
  simp (maxSteps:=2000000) (maxDischargeDepth:=8) -implicitDefEqProofs [g1l1_cb,slices_IndexFunc_impl_Filter_impl_Filter__ValidPipeline_c1_l1_b] <;> (try simp only [map_to_bind,some_elim,g1l1_F])
def slices_IndexFunc_impl_Filter_impl_Filter__ValidPipeline_c1_l1 (v1:List (Int×Int×Bool)) (v2:Int) (s:Int):Option ((Unit) ⊕ (Int)):=loopO (fun s=>slices_IndexFunc_impl_Filter_impl_Filter__ValidPipeline_c1_l1_b v1 v2 s) s
@[simp] theorem g1l1_eq (y0 y1 y2):X g1_S g1l1_c [(0,(.vs (rows y0))),(1,(.fn 32 [] [])),(7,(.int .i64 y1)),(8,(.int .i64 y2))] []=(slices_IndexFunc_impl_Filter_impl_Filter__ValidPipeline_c1_l1 y0 y1 y2).map g1l1_F:=by
  exact loop_X _ _ _ _ (by intro r;first | (simp;done) | (rcases r with r | r <;> simp;done) | (rcases r with r | r | r <;> simp;done) | (rcases r with r | r | r | r <;> simp)) (fun s=>g1l1_b_eq  y0 y1 s) y2
def slices_IndexFunc_impl_Filter_impl_Filter__ValidPipeline_c1 (a_s:List (Int×Int×Bool)):Option (Int):=(slices_IndexFunc_impl_Filter_impl_Filter__ValidPipeline_c1_l1 a_s ((a_s.length:Int)) 0).bind fun r6=>Sum.elim (fun u7=>some ((-1))) (fun u8=>some u8) r6
@[simp] def g1_O:Int→TV×List Blk:=fun r=>((.int .i64 r),[])
def g1_E (a:(List (Int×Int×Bool))):List TV:=[(.vs (rows a)),(.fn 32 [] [])]
theorem g1_run (a_s:List (Int×Int×Bool)) :callFn (X g1_S) g1_tf (g1_E a_s) []=(slices_IndexFunc_impl_Filter_impl_Filter__ValidPipeline_c1 a_s).map g1_O:=by
  rw [callFn_eq]
  simp (maxSteps:=2000000) (maxDischargeDepth:=8) -implicitDefEqProofs [g1_tf,slices_IndexFunc_impl_Filter_impl_Filter__ValidPipeline_c1,g1_E] <;> (try simp only [map_to_bind,some_elim,g1_O])
def g1_r:Rule:=RlO g1_E (fun a=>slices_IndexFunc_impl_Filter_impl_Filter__ValidPipeline_c1 a) g1_O
theorem g1_ok:RuleOk Tryd.prog 66 g1_r:=ok_rlo (S:=g1_S) (tf:=g1_tf) (SysOk.on ⟨g16_ok,trivial⟩ trivial) (trE_ok (ks:=[[0,1,7,8]]) Tryd.func66 (by kernel_rfl)) fun a=>g1_run a
@[simp] theorem g1_app (y0):g1_r [(.vs (rows y0)),(.fn 32 [] [])]=(slices_IndexFunc_impl_Filter_impl_Filter__ValidPipeline_c1 y0).map g1_O :=
  RlO_app (enc:=g1_E) (by intro a b h;simp [g1_E,Prod.ext_iff] at h ⊢;simp [h]) y0
/-! slices.ContainsFunc[[]impl.Filter,impl.Filter] -/
def g0_tf:TFn:=⟨(sq [mk 4 (kb false)] [0,1] (.seq (.ops [mo 5 0,mo 6 1,ca 7 66 [.t 5,.t 6],bn 8 .geq (.t 7) (ki 0),mo 4 8]) (.keep (kp [(4,0)] [] 0) .ret))),[.t 4]⟩
abbrev g0_S:=Sys.on [(66,g1_r)] []
def slices_ContainsFunc_impl_Filter_impl_Filter__ValidPipeline_c1 (a_s:List (Int×Int×Bool)):Option (Bool):=(slices_IndexFunc_impl_Filter_impl_Filter__ValidPipeline_c1 a_s).bind fun r1=>some ((decide (r1 ≥ 0)))
@[simp] def g0_O:Bool→TV×List Blk:=fun r=>((.bool r),[])
def g0_E (a:(List (Int×Int×Bool))):List TV:=[(.vs (rows a)),(.fn 32 [] [])]
theorem g0_run (a_s:List (Int×Int×Bool)) :callFn (X g0_S) g0_tf (g0_E a_s) []=(slices_ContainsFunc_impl_Filter_impl_Filter__ValidPipeline_c1 a_s).map g0_O:=by
  rw [callFn_eq]
  simp (maxSteps:=2000000) (maxDischargeDepth:=8) -implicitDefEqProofs [g0_tf,slices_ContainsFunc_impl_Filter_impl_Filter__ValidPipeline_c1,g0_E] <;> (try simp only [map_to_bind,some_elim,g0_O])
def g0_r:Rule:=RlO g0_E (fun a=>slices_ContainsFunc_impl_Filter_impl_Filter__ValidPipeline_c1 a) g0_O
theorem g0_ok:RuleOk Tryd.prog 31 g0_r:=ok_rlo (S:=g0_S) (tf:=g0_tf) (SysOk.on ⟨g1_ok,trivial⟩ trivial) (trE_ok (ks:=[]) Tryd.func31 (by kernel_rfl)) fun a=>g0_run a
@[simp] theorem g0_app (y0):g0_r [(.vs (rows y0)),(.fn 32 [] [])]=(slices_ContainsFunc_impl_Filter_impl_Filter__ValidPipeline_c1 y0).map g0_O :=
  RlO_app (enc:=g0_E) (by intro a b h;simp [g0_E,Prod.ext_iff] at h ⊢;simp [h]) y0
/-! impl.ValidPipeline -/
def g31_tf:TFn:=⟨(sq [mk 2 (kb false)] [0] (.seq (.after (.ops [mo 3 0,le 4 3,bn 5 .leq (.t 4) (ki 4),mo 6 5,⟨(some 7),(some (6,true)),(.mv (.t 0))⟩,⟨(some 8),(some (6,true)),(.call 31 [.t 7,(.c (.fn 32 [] []))])⟩,⟨(some 9),(some (6,true)),(.un .not (.t 8))⟩,pk 10 (.t 6) (.t 9) (kb false),mo 2 10]) (kp [(2,0)] [] 0)) (.keep (kp [(2,0)] [] 0) .ret))),[.t 2]⟩
abbrev g31_S:=Sys.on [(31,g0_r)] []
def impl_ValidPipeline (a_list:List (Int×Int×Bool)):Option (Bool):=if (a_list.length:Int)≤4 then (slices_ContainsFunc_impl_Filter_impl_Filter__ValidPipeline_c1 a_list).bind fun r1=>some ((!r1)) else some false
@[simp] def g31_O:Bool→TV×List Blk:=fun r=>((.bool r),[])
def g31_E (a:(List (Int×Int×Bool))):List TV:=[(.vs (rows a))]
theorem g31_run (a_list:List (Int×Int×Bool)) :callFn (X g31_S) g31_tf (g31_E a_list) []=(impl_ValidPipeline a_list).map g31_O:=by
  rw [callFn_eq]
  simp (maxSteps:=2000000) (maxDischargeDepth:=8) -implicitDefEqProofs [g31_tf,impl_ValidPipeline,g31_E] <;> (try simp only [map_to_bind,some_elim,g31_O])
def g31_r:Rule:=RlO g31_E (fun a=>impl_ValidPipeline a) g31_O
theorem g31_ok:RuleOk Tryd.prog 11 g31_r:=ok_rlo (S:=g31_S) (tf:=g31_tf) (SysOk.on ⟨g0_ok,trivial⟩ trivial) (trE_ok (ks:=[]) Tryd.func11 (by kernel_rfl)) fun a=>g31_run a
@[simp] theorem g31_app (y0):g31_r [(.vs (rows y0))]=(impl_ValidPipeline y0).map g31_O :=
  RlO_app (enc:=g31_E) (by intro a b h;simp [g31_E,Prod.ext_iff] at h ⊢;simp [h]) y0
@[simp] theorem g31_app_a_list :g31_r [(.vs [])]=(impl_ValidPipeline (([]:List (Int×Int×Bool)))).map g31_O :=
  g31_app ([]:List (Int×Int×Bool)) 
/-! impl.putBytes -/
def g48l1_cb:TC:=(sq [bn 12 .lss (.t 11) (.t 10)] [0,5,10,11,12] (.seq (.cond (.t 12) .skip (.keep (kp [(5,1)] [(0,1)] 0) (.exit 0))) (.trim [0,5,10,11] (.seq (.block 1 (sq [mo 13 11,mo 6 13] [0,5,6,10,11] (.ops [mo 14 5,mo 15 6,mo 16 0,mo 17 6,bn 18 .mul (ki 8) (.t 17),bn 19 .shr (.t 16) (.t 18),oo 20 (.conv (.toInt .u8) (.t 19)),ia 21 1 14 15,⟨none,none,(.store 1 (.t 21) (.t 20))⟩]))) (.trim [0,5,10,11] (.after (.ops [bn 22 .add (.t 11) (ki 1),mo 11 22]) (kp [(0,0),(5,1),(10,0),(11,0)] [(0,1)] 0)))))))
def g48l1_c:TC:=.loop [0,5,10,11] g48l1_cb
def g48_tf:TFn:=⟨(sq [mk 4 (.c (.str []))] [0,1] (sq [mo 7 1,oo 8 (.mkslice 1 [(.int .u8 0)] (.t 7) (.t 7)),mo 5 8] [0,5] (.seq (sq [mo 9 5,le 10 9,mk 11 (ki 0)] [0,5,10,11] (.block 0 (.keep (kp [(0,0),(5,1),(10,0),(11,0)] [(0,1)] 0) g48l1_c))) (.trim [5] (.seq (.ops [mo 23 5,oo 24 (.conv .toStr (.t 23)),mo 4 24]) (.keep (kp [(4,0)] [] 0) .ret)))))),[.t 4]⟩
abbrev g48_S:=Sys.on [] []
@[reducible,simp] def g48l1_F:(List Bt)→Out:=(fun t=>(.ext 0,[(5,(ow 0 t.length))],[(ob 1 t)]))
def impl_putBytes_l1_b (v2:Int) (v4:Int) (v3:List Bt) (v5:Int):Option ((List Bt×Int) ⊕ (List Bt)):=if v5 < v4 then if (IntKind.i64.wrap (8 * v5)) < 0 then none else if 0≤v5∧v5 < ((v3.length:Nat):Int) then (v3[(v5).toNat]?).bind fun x6=>some (.inl ((v3.set (v5).toNat (⟨UInt8.ofNat ((IntKind.u8.wrap ((shrV .i64 v2 ((IntKind.i64.wrap (8 * v5))))))).toNat⟩:Bt)),(IntKind.i64.wrap (v5+1)))) else none else some (.inr v3)
theorem g48l1_b_eq  (v2:Int) (v4:Int) (v3:List Bt) (v5:Int):X g48_S g48l1_cb (keepEnv [0,5,10,11] [(0,(.int .i64 v2)),(5,(ow 0 v3.length)),(10,(.int .i64 v4)),(11,(.int .i64 v5))]) [(ob 1 v3)]=(impl_putBytes_l1_b v2 v4 v3 v5).map (Sum.elim (fun s=>(TX.nrm,[(0,(.int .i64 v2)),(5,(ow 0 s.1.length)),(10,(.int .i64 v4)),(11,(.int .i64 s.2))],[(ob 1 s.1)])) g48l1_F):=by
  simp (maxSteps:=2000000) (maxDischargeDepth:=8) -implicitDefEqProofs [g48l1_cb,impl_putBytes_l1_b,mksliceV_typed (z:=((⟨0⟩:Bt):Bt)) (zs:=[(.int .u8 0)]) rfl (by decide) (by decide)] <;> (try simp only [map_to_bind,some_elim,g48l1_F])
def impl_putBytes_l1 (v2:Int) (v4:Int) (s:List Bt×Int):Option (List Bt):=loopO (fun s=>impl_putBytes_l1_b v2 v4 s.1 s.2) s
@[simp] theorem g48l1_eq (y0)(y1:List Bt)(y2 y3){n1:Nat}(h1:n1=y1.length):X g48_S g48l1_c [(0,(.int .i64 y0)),(5,(ow 0 n1)),(10,(.int .i64 y2)),(11,(.int .i64 y3))] [(ob 1 y1)]=(impl_putBytes_l1 y0 y2 (y1,y3)).map g48l1_F:=by
  subst h1
  exact loop_X _ _ _ _ (by intro r;first | (simp;done) | (rcases r with r | r <;> simp;done) | (rcases r with r | r | r <;> simp;done) | (rcases r with r | r | r | r <;> simp)) (fun s=>g48l1_b_eq  y0 y2 s.1 s.2) (y1,y3)
def impl_putBytes (a_n:Int) (a_size:Int):Option (Str):=(mkL 1 a_size a_size ((⟨0⟩:Bt):Bt)).bind fun l1=>(impl_putBytes_l1 a_n (((l1.length:Nat):Int)) ((l1,0))).bind fun r7=>some ((r7.map Bt.v))
@[simp] def g48_O:Str→TV×List Blk:=fun r=>((.str r),[])
def g48_E (a:Int×Int):List TV:=[(.int .i64 a.1),(.int .i64 a.2)]
theorem g48_run (a_n:Int) (a_size:Int) :callFn (X g48_S) g48_tf (g48_E (a_n,a_size)) []=(impl_putBytes a_n a_size).map g48_O:=by
  rw [callFn_eq]
  simp (maxSteps:=2000000) (maxDischargeDepth:=8) -implicitDefEqProofs [g48_tf,impl_putBytes,g48_E,mksliceV_typed (z:=((⟨0⟩:Bt):Bt)) (zs:=[(.int .u8 0)]) rfl (by decide) (by decide)] <;> (try simp only [map_to_bind,some_elim,g48_O])
def g48_r:Rule:=RlO g48_E (fun a=>impl_putBytes a.1 a.2) g48_O
theorem g48_ok:RuleOk Tryd.prog 57 g48_r:=ok_rlo (S:=g48_S) (tf:=g48_tf) (SysOk.on trivial trivial) (trE_ok (ks:=[[0,5,10,11]]) Tryd.func57 (by kernel_rfl)) fun a=>g48_run a.1 a.2
@[simp] theorem g48_app (y0 y1):g48_r [(.int .i64 y0),(.int .i64 y1)]=(impl_putBytes y0 y1).map g48_O :=
  RlO_app (enc:=g48_E) (by intro a b h;simp [g48_E,Prod.ext_iff] at h ⊢;simp [h]) (y0,y1)
/-! impl.truth -/
def g59_tf:TFn:=⟨(sq [mk 2 (ki 0)] [0] (.seq (sq [mo 3 0] [3] (.cond (.t 3) (.seq (.ops [mk 2 (ki 1)]) (.keep (kp [(2,0)] [] 0) .ret)) .skip)) (.trim [] (.seq (.ops [mk 2 (ki 0)]) (.keep (kp [(2,0)] [] 0) .ret))))),[.t 2]⟩
abbrev g59_S:=Sys.on [] []
def impl_truth (a_is:Bool):Option (Int):=if a_is=true then some 1 else some 0
@[simp] def g59_O:Int→TV×List Blk:=fun r=>((.int .i64 r),[])
def g59_E (a:Bool):List TV:=[(.bool a)]
theorem g59_run (a_is:Bool) :callFn (X g59_S) g59_tf (g59_E a_is) []=(impl_truth a_is).map g59_O:=by
  rw [callFn_eq]
  simp (maxSteps:=2000000) (maxDischargeDepth:=8) -implicitDefEqProofs [g59_tf,impl_truth,g59_E] <;> (try simp only [map_to_bind,some_elim,g59_O])
def g59_r:Rule:=RlO g59_E (fun a=>impl_truth a) g59_O
theorem g59_ok:RuleOk Tryd.prog 58 g59_r:=ok_rlo (S:=g59_S) (tf:=g59_tf) (SysOk.on trivial trivial) (trE_ok (ks:=[]) Tryd.func58 (by kernel_rfl)) fun a=>g59_run a
@[simp] theorem g59_app (y0):g59_r [(.bool y0)]=(impl_truth y0).map g59_O :=
  RlO_app (enc:=g59_E) (by intro a b h;simp [g59_E,Prod.ext_iff] at h ⊢;simp [h]) y0
/-! impl.encodePipeline -/
def g26l1_cb:TC:=(sq [bn 12 .lss (.t 11) (.t 10)] [3,9,10,11,12] (.seq (.cond (.t 12) .skip (.keep (kp [(3,0)] [] 0) (.exit 0))) (.trim [3,9,10,11] (.seq (.block 1 (sq [ia 13 3 9 11,ln 14 3 13,oo 5 (.alloc [(.int .i64 0),(.int .i64 0),(.bool false)]),⟨none,none,(.store 3 (.t 5) (.t 14))⟩] [3,5,9,10,11] (.draw [([],mo 15 3),([],fa 16 0 5),([1],ld 17 16),([1,2],ca 18 57 [.t 17,ki 1]),([],fa 19 1 5),([4],ld 20 19),([1,2,3,4,5],ca 21 57 [.t 20,ki 1]),([1,2,3,4,5,6],oo 22 (.bin .str .add (.t 18) (.t 21))),([],fa 23 2 5),([8],ld 24 23),([1,2,3,4,5,6,8,9],ca 25 58 [.t 24]),([1,2,3,4,5,6,8,9,10],ca 26 57 [.t 25,ki 1]),([1,2,3,4,5,6,7,8,9,10,11],oo 27 (.bin .str .add (.t 22) (.t 26)))] [oo 28 (.bin .str .add (.t 15) (.t 27)),mo 3 28]))) (.trim [3,9,10,11] (.after (.ops [bn 29 .add (.t 11) (ki 1),mo 11 29]) (kp [(3,0),(9,0),(10,0),(11,0)] [] 0)))))))
def g26l1_c:TC:=.loop [3,9,10,11] g26l1_cb
def g26_tf:TFn:=⟨(sq [mk 2 (.c (.str []))] [0] (sq [mo 6 0,le 7 6,ca 8 57 [.t 7,ki 1],mo 3 8] [0,3] (.seq (sq [mo 9 0,le 10 9,mk 11 (ki 0)] [3,9,10,11] (.block 0 (.keep (kp [(3,0),(9,0),(10,0),(11,0)] [] 0) g26l1_c))) (.trim [3] (.seq (.ops [mo 30 3,mo 2 30]) (.keep (kp [(2,0)] [] 0) .ret)))))),[.t 2]⟩
abbrev g26_S:=Sys.on [(57,g48_r),(58,g59_r)] []
@[reducible,simp] def g26l1_F:Str→Out:=(fun t=>(.ext 0,[(3,(.str t))],[]))
def impl_encodePipeline_l1_b (v3:List (Int×Int×Bool)) (v4:Int) (v2:Str) (v5:Int):Option ((Str×Int) ⊕ (Str)):=if v5 < v4 then if 0≤v5 then (v3[(v5).toNat]?).bind fun x6=>(impl_putBytes x6.1 1).bind fun r7=>(impl_putBytes x6.2.1 1).bind fun r8=>if r7.length+r8.length≤9223372036854775807 then (impl_truth x6.2.2).bind fun r9=>(impl_putBytes r9 1).bind fun r10=>if ((r7++r8)).length+r10.length≤9223372036854775807 then if v2.length+(((r7++r8)++r10)).length≤9223372036854775807 then some (.inl ((v2++((r7++r8)++r10)),(IntKind.i64.wrap (v5+1)))) else none else none else none else none else some (.inr v2)
theorem g26l1_b_eq  (v3:List (Int×Int×Bool)) (v4:Int) (v2:Str) (v5:Int):X g26_S g26l1_cb (keepEnv [3,9,10,11] [(3,(.str v2)),(9,(.vs (rows v3))),(10,(.int .i64 v4)),(11,(.int .i64 v5))]) []=(impl_encodePipeline_l1_b v3 v4 v2 v5).map (Sum.elim (fun s=>(TX.nrm,[(3,(.str s.1)),(9,(.vs (rows v3))),(10,(.int .i64 v4)),(11,(.int .i64 s.2))],[])) g26l1_F):=by
  simp (maxSteps:=2000000) (maxDischargeDepth:=8) -implicitDefEqProofs [g26l1_cb,impl_encodePipeline_l1_b] <;> (try simp only [map_to_bind,some_elim,g26l1_F])
def impl_encodePipeline_l1 (v3:List (Int×Int×Bool)) (v4:Int) (s:Str×Int):Option (Str):=loopO (fun s=>impl_encodePipeline_l1_b v3 v4 s.1 s.2) s
@[simp] theorem g26l1_eq (y0 y1 y2 y3):X g26_S g26l1_c [(3,(.str y0)),(9,(.vs (rows y1))),(10,(.int .i64 y2)),(11,(.int .i64 y3))] []=(impl_encodePipeline_l1 y1 y2 (y0,y3)).map g26l1_F:=by
  exact loop_X _ _ _ _ (by intro r;first | (simp;done) | (rcases r with r | r <;> simp;done) | (rcases r with r | r | r <;> simp;done) | (rcases r with r | r | r | r <;> simp)) (fun s=>g26l1_b_eq  y1 y2 s.1 s.2) (y0,y3)
def impl_encodePipeline (a_list:List (Int×Int×Bool)):Option (Str):=(impl_putBytes ((a_list.length:Int)) 1).bind fun r1=>(impl_encodePipeline_l1 a_list ((a_list.length:Int)) ((r1,0))).bind fun r11=>some r11
@[simp] def g26_O:Str→TV×List Blk:=fun r=>((.str r),[])
def g26_E (a:(List (Int×Int×Bool))):List TV:=[(.vs (rows a))]
theorem g26_run (a_list:List (Int×Int×Bool)) :callFn (X g26_S) g26_tf (g26_E a_list) []=(impl_encodePipeline a_list).map g26_O:=by
  rw [callFn_eq]
  simp (maxSteps:=2000000) (maxDischargeDepth:=8) -implicitDefEqProofs [g26_tf,impl_encodePipeline,g26_E] <;> (try simp only [map_to_bind,some_elim,g26_O])
def g26_r:Rule:=RlO g26_E (fun a=>impl_encodePipeline a) g26_O
theorem g26_ok:RuleOk Tryd.prog 26 g26_r:=ok_rlo (S:=g26_S) (tf:=g26_tf) (SysOk.on ⟨g48_ok,g59_ok,trivial⟩ trivial) (trE_ok (ks:=[[3,9,10,11],[13]]) Tryd.func26 (by kernel_rfl)) fun a=>g26_run a
@[simp] theorem g26_app (y0):g26_r [(.vs (rows y0))]=(impl_encodePipeline y0).map g26_O :=
  RlO_app (enc:=g26_E) (by intro a b h;simp [g26_E,Prod.ext_iff] at h ⊢;simp [h]) y0
@[simp] theorem g26_app_a_list :g26_r [(.vs [])]=(impl_encodePipeline (([]:List (Int×Int×Bool)))).map g26_O :=
  g26_app ([]:List (Int×Int×Bool)) 
/-! impl.EncodePipeline -/
def g27_tf:TFn:=⟨(sq [mk 2 (.c (.str []))] [0] (.seq (sq [mo 3 0,ca 4 11 [.t 3],nt 5 4] [0,5] (.cond (.t 5) (.seq (.ops [mk 2 (.c (.str []))]) (.keep (kp [(2,0)] [] 0) .ret)) .skip)) (.trim [0] (.seq (.ops [mo 6 0,ca 7 26 [.t 6],mo 2 7]) (.keep (kp [(2,0)] [] 0) .ret))))),[.t 2]⟩
abbrev g27_S:=Sys.on [(11,g31_r),(26,g26_r)] []
def impl_EncodePipeline (a_list:List (Int×Int×Bool)):Option (Str):=(impl_ValidPipeline a_list).bind fun r1=>if ¬(r1=true) then some (([]:Str)) else (impl_encodePipeline a_list).bind fun r2=>some r2
@[simp] def g27_O:Str→TV×List Blk:=fun r=>((.str r),[])
def g27_E (a:(List (Int×Int×Bool))):List TV:=[(.vs (rows a))]
theorem g27_run (a_list:List (Int×Int×Bool)) :callFn (X g27_S) g27_tf (g27_E a_list) []=(impl_EncodePipeline a_list).map g27_O:=by
  rw [callFn_eq]
  simp (maxSteps:=2000000) (maxDischargeDepth:=8) -implicitDefEqProofs [g27_tf,impl_EncodePipeline,g27_E] <;> (try simp only [map_to_bind,some_elim,g27_O])
def g27_r:Rule:=RlO g27_E (fun a=>impl_EncodePipeline a) g27_O
theorem g27_ok:RuleOk Tryd.prog 7 g27_r:=ok_rlo (S:=g27_S) (tf:=g27_tf) (SysOk.on ⟨g31_ok,g26_ok,trivial⟩ trivial) (trE_ok (ks:=[]) Tryd.func7 (by kernel_rfl)) fun a=>g27_run a
@[simp] theorem g27_app (y0):g27_r [(.vs (rows y0))]=(impl_EncodePipeline y0).map g27_O :=
  RlO_app (enc:=g27_E) (by intro a b h;simp [g27_E,Prod.ext_iff] at h ⊢;simp [h]) y0
/-! impl.cut -/
def g63_tf:TFn:=⟨(sq [mk 6 (.c (.str [])),mk 7 (kb false)] [0,1,2] (.seq (sq [mo 8 2,bn 9 .lss (.t 8) (ki 0),mo 10 9,⟨(some 11),(some (10,false)),(.mv (.t 1))⟩,⟨(some 12),(some (10,false)),(.mv (.t 0))⟩,⟨(some 13),(some (10,false)),(.len true (.t 12))⟩,⟨(some 14),(some (10,false)),(.mv (.t 2))⟩,⟨(some 15),(some (10,false)),(.bin .num .sub (.t 13) (.t 14))⟩,⟨(some 16),(some (10,false)),(.call 67 [.t 11,ki 0,.t 15])⟩,⟨(some 17),(some (10,false)),(.un .not (.t 16))⟩,pk 18 (.t 10) (kb true) (.t 17)] [0,1,2,18] (.cond (.t 18) (.seq (.ops [mk 6 (.c (.str [])),mk 7 (kb false)]) (.keep (kp [(6,0),(7,0)] [] 0) .ret)) .skip)) (.trim [0,1,2] (.seq (.ops [mo 19 0,mo 20 1,mo 21 1,mo 22 2,bn 23 .add (.t 21) (.t 22),oo 24 (.sliceS (.t 19) (some (.t 20)) (some (.t 23))),mo 6 24,mk 7 (kb true)]) (.keep (kp [(6,0),(7,0)] [] 0) .ret))))),[.t 6,.t 7]⟩
abbrev g63_S:=Sys.on [(67,g58_r)] []
def impl_cut (a_s:Str) (a_at:Int) (a_size:Int):Option (Str×Bool):=if a_size < 0 then some (([]:Str),false) else (impl_within a_at 0 ((IntKind.i64.wrap ((a_s.length:Int) - a_size)))).bind fun r1=>if ¬(r1=true) then some (([]:Str),false) else (subL a_s (some a_at) (some ((IntKind.i64.wrap (a_at+a_size))))).bind fun s2=>some (s2,true)
@[simp] def g63_O:(Str×Bool)→TV×List Blk:=fun r=>((.tup [(.str r.1),(.bool r.2)]),[])
def g63_E (a:Str×Int×Int):List TV:=[(.str a.1),(.int .i64 a.2.1),(.int .i64 a.2.2)]
theorem g63_run (a_s:Str) (a_at:Int) (a_size:Int) :callFn (X g63_S) g63_tf (g63_E (a_s,a_at,a_size)) []=(impl_cut a_s a_at a_size).map g63_O:=by
  rw [callFn_eq]
  simp (maxSteps:=2000000) (maxDischargeDepth:=8) -implicitDefEqProofs [g63_tf,impl_cut,g63_E] <;> (try simp only [map_to_bind,some_elim,g63_O])
def g63_r:Rule:=RlO g63_E (fun a=>impl_cut a.1 a.2.1 a.2.2) g63_O
theorem g63_ok:RuleOk Tryd.prog 111 g63_r:=ok_rlo (S:=g63_S) (tf:=g63_tf) (SysOk.on ⟨g58_ok,trivial⟩ trivial) (trE_ok (ks:=[]) Tryd.func111 (by kernel_rfl)) fun a=>g63_run a.1 a.2.1 a.2.2
@[simp] theorem g63_app (y0 y1 y2):g63_r [(.str y0),(.int .i64 y1),(.int .i64 y2)]=(impl_cut y0 y1 y2).map g63_O :=
  RlO_app (enc:=g63_E) (by intro a b h;simp [g63_E,Prod.ext_iff] at h ⊢;simp [h]) (y0,y1,y2)
/-! (*impl.decoder).take -/
def g17_tf:TFn:=⟨(sq [mk 4 (.c (.str []))] [0,1] (sq [mo 8 0,nk 9 8,fa 10 0 9,ld 11 10,mo 12 1,ca 13 111 [.t 11,ki 0,.t 12],mo 7 13,oo 14 (.ext (.t 7) 0),oo 15 (.ext (.t 7) 1),mo 5 14,mo 6 15] [0,1,5,6] (.seq (sq [mo 16 6,nt 17 16] [0,1,5,17] (.cond (.t 17) (sq [mo 18 0,nk 19 18,fa 20 1 19,⟨none,none,(.store 1 (.t 20) (kb true))⟩] [] (.seq (.ops [mk 4 (.c (.str []))]) (.keep (kp [(4,0)] [(0,0)] 1) .ret))) .skip)) (.trim [0,1,5] (sq [mo 21 0,mo 22 0,nk 23 22,fa 24 0 23,ld 25 24,mo 26 1,oo 27 (.sliceS (.t 25) (some (.t 26)) none),nk 28 21,fa 29 0 28,⟨none,none,(.store 1 (.t 29) (.t 27))⟩] [5] (.seq (.ops [mo 30 5,mo 4 30]) (.keep (kp [(4,0)] [(0,0)] 1) .ret))))))),[.t 4]⟩
abbrev g17_S:=Sys.on [(111,g63_r)] []
def impl_decoder_take_o1a (a1:Str×Bool) (a2:Int):Option ((Str×Bool)×Str):=(impl_cut a1.1 0 a2).bind fun r1=>if ¬(r1.2=true) then some ((a1.1,true),([]:Str)) else (subL a1.1 (some a2) none).bind fun s2=>some ((s2,a1.2),r1.1)
@[simp] def g17_O:((Str×Bool)×Str)→TV×List Blk:=fun r=>((.str r.2),[(.live 2 [[(.str r.1.1),(.bool r.1.2)]])])
abbrev g17_T:=(Str×Bool)×Int
def g17_E (a:g17_T):List TV:=[(.ptr 0 0 0),(.int .i64 a.2)]
def g17_B (a:g17_T):List Blk:=[(.live 2 [[(.str a.1.1),(.bool a.1.2)]])]
theorem g17_run (a1:Str×Bool) (a2:Int) :callFn (X g17_S) g17_tf (g17_E (a1,a2)) (g17_B (a1,a2))=(impl_decoder_take_o1a a1 a2).map g17_O:=by
  rw [callFn_eq]
  simp (maxSteps:=2000000) (maxDischargeDepth:=8) -implicitDefEqProofs [g17_tf,impl_decoder_take_o1a,g17_E,g17_B] <;> (try simp only [map_to_bind,some_elim,g17_O])
def g17_r:MRule:=RmO g17_E g17_B (fun a=>impl_decoder_take_o1a a.1 a.2) g17_O
theorem g17_ok:MRuleOk Tryd.prog 88 1 g17_r:=ok_rmo (S:=g17_S) (tf:=g17_tf) (SysOk.on ⟨g63_ok,trivial⟩ trivial) (trE_ok (ks:=[]) Tryd.func88 (by kernel_rfl)) (by rfl) (fun _=>by simp [g17_B]) (fun _=>by simp) fun a=>g17_run a.1 a.2
@[simp] theorem g17_app (y0 y1 y2):g17_r [(.ptr 0 0 0),(.int .i64 y2)] [(.live 2 [[(.str y0),(.bool y1)]])]=(impl_decoder_take_o1a ((y0,y1)) y2).map g17_O:=by
  exact RmO_app (enc:=g17_E) (encB:=g17_B) (by intro a b h h2;simp [g17_E,g17_B,Prod.ext_iff] at h h2 ⊢;simp [h,h2]) ((y0,y1),y2)
/-! impl.getBits -/
def g53l1_cb:TC:=(sq [bn 8 .lss (.t 7) (.t 6)] [0,3,6,7,8] (.seq (.cond (.t 8) .skip (.keep (kp [(3,0)] [] 0) (.exit 0))) (.trim [0,3,6,7] (.seq (.block 1 (sq [mo 9 7,mo 4 9] [0,3,4,6,7] (.ops [mo 10 3,mo 11 0,mo 12 4,oo 13 (.index (.t 11) (.t 12)),oo 14 (.conv (.toInt .u64) (.t 13)),mo 15 4,bn 16 .mul (ki 8) (.t 15),bn 17 .shl (.t 14) (.t 16),bn 18 .or (.t 10) (.t 17),mo 3 18]))) (.trim [0,3,6,7] (.after (.ops [bn 19 .add (.t 7) (ki 1),mo 7 19]) (kp [(0,0),(3,0),(6,0),(7,0)] [] 0)))))))
def g53l1_c:TC:=.loop [0,3,6,7] g53l1_cb
def g53_tf:TFn:=⟨(sq [mk 2 (.c (.int .u64 0))] [0] (sq [mk 3 (.c (.int .u64 0))] [0,3] (.seq (sq [mo 5 0,oo 6 (.len true (.t 5)),mk 7 (ki 0)] [0,3,6,7] (.block 0 (.keep (kp [(0,0),(3,0),(6,0),(7,0)] [] 0) g53l1_c))) (.trim [3] (.seq (.ops [mo 20 3,mo 2 20]) (.keep (kp [(2,0)] [] 0) .ret)))))),[.t 2]⟩
abbrev g53_S:=Sys.on [] []
@[reducible,simp] def g53l1_F:Int→Out:=(fun t=>(.ext 0,[(3,(.int .u64 t))],[]))
def impl_getBits_l1_b (v1:Str) (v3:Int) (v2:Int) (v4:Int):Option ((Int×Int) ⊕ (Int)):=if v4 < v3 then if 0≤v4 then (v1[(v4).toNat]?).bind fun (b5:UInt8)=>if (IntKind.i64.wrap (8 * v4)) < 0 then none else some (.inl ((bitV .or .u64 v2 ((shlV .u64 ((IntKind.u64.wrap ((b5.toNat:Int)))) ((IntKind.i64.wrap (8 * v4)))))),(IntKind.i64.wrap (v4+1)))) else none else some (.inr v2)
theorem g53l1_b_eq  (v1:Str) (v3:Int) (v2:Int) (v4:Int):X g53_S g53l1_cb (keepEnv [0,3,6,7] [(0,(.str v1)),(3,(.int .u64 v2)),(6,(.int .i64 v3)),(7,(.int .i64 v4))]) []=(impl_getBits_l1_b v1 v3 v2 v4).map (Sum.elim (fun s=>(TX.nrm,[(0,(.str v1)),(3,(.int .u64 s.1)),(6,(.int .i64 v3)),(7,(.int .i64 s.2))],[])) g53l1_F):=by
  simp (maxSteps:=2000000) (maxDischargeDepth:=8) -implicitDefEqProofs [g53l1_cb,impl_getBits_l1_b] <;> (try simp only [map_to_bind,some_elim,g53l1_F])
def impl_getBits_l1 (v1:Str) (v3:Int) (s:Int×Int):Option (Int):=loopO (fun s=>impl_getBits_l1_b v1 v3 s.1 s.2) s
@[simp] theorem g53l1_eq (y0 y1 y2 y3):X g53_S g53l1_c [(0,(.str y0)),(3,(.int .u64 y1)),(6,(.int .i64 y2)),(7,(.int .i64 y3))] []=(impl_getBits_l1 y0 y2 (y1,y3)).map g53l1_F:=by
  exact loop_X _ _ _ _ (by intro r;first | (simp;done) | (rcases r with r | r <;> simp;done) | (rcases r with r | r | r <;> simp;done) | (rcases r with r | r | r | r <;> simp)) (fun s=>g53l1_b_eq  y0 y2 s.1 s.2) (y1,y3)
def impl_getBits (a_s:Str):Option (Int):=(impl_getBits_l1 a_s ((a_s.length:Int)) ((0,0))).bind fun r6=>some r6
@[simp] def g53_O:Int→TV×List Blk:=fun r=>((.int .u64 r),[])
def g53_E (a:Str):List TV:=[(.str a)]
theorem g53_run (a_s:Str) :callFn (X g53_S) g53_tf (g53_E a_s) []=(impl_getBits a_s).map g53_O:=by
  rw [callFn_eq]
  simp (maxSteps:=2000000) (maxDischargeDepth:=8) -implicitDefEqProofs [g53_tf,impl_getBits,g53_E] <;> (try simp only [map_to_bind,some_elim,g53_O])
def g53_r:Rule:=RlO g53_E (fun a=>impl_getBits a) g53_O
theorem g53_ok:RuleOk Tryd.prog 95 g53_r:=ok_rlo (S:=g53_S) (tf:=g53_tf) (SysOk.on trivial trivial) (trE_ok (ks:=[[0,3,6,7]]) Tryd.func95 (by kernel_rfl)) fun a=>g53_run a
@[simp] theorem g53_app (y0):g53_r [(.str y0)]=(impl_getBits y0).map g53_O :=
  RlO_app (enc:=g53_E) (by intro a b h;simp [g53_E,Prod.ext_iff] at h ⊢;simp [h]) y0
/-! (*impl.decoder).number -/
def g6_tf:TFn:=⟨(sq [mk 4 (ki 0)] [0,1] (.seq (.ops [mo 5 0,mo 6 1,oo 7 (.callM 88 0 [0] [.t 5,.t 6]),ca 8 95 [.t 7],oo 9 (.conv (.toInt .i64) (.t 8)),mo 4 9]) (.keep (kp [(4,0)] [(0,0)] 1) .ret))),[.t 4]⟩
abbrev g6_S:=Sys.on [(95,g53_r)] [((88,0),(1,g17_r))]
def impl_decoder_number_o1a (a1:Str×Bool) (a2:Int):Option ((Str×Bool)×Int):=(impl_decoder_take_o1a a1 a2).bind fun r1=>(impl_getBits r1.2).bind fun r2=>some (r1.1,(IntKind.i64.wrap r2))
@[simp] def g6_O:((Str×Bool)×Int)→TV×List Blk:=fun r=>((.int .i64 r.2),[(.live 2 [[(.str r.1.1),(.bool r.1.2)]])])
abbrev g6_T:=(Str×Bool)×Int
def g6_E (a:g6_T):List TV:=[(.ptr 0 0 0),(.int .i64 a.2)]
def g6_B (a:g6_T):List Blk:=[(.live 2 [[(.str a.1.1),(.bool a.1.2)]])]
theorem g6_run (a1:Str×Bool) (a2:Int) :callFn (X g6_S) g6_tf (g6_E (a1,a2)) (g6_B (a1,a2))=(impl_decoder_number_o1a a1 a2).map g6_O:=by
  rw [callFn_eq]
  simp (maxSteps:=2000000) (maxDischargeDepth:=8) -implicitDefEqProofs [g6_tf,impl_decoder_number_o1a,g6_E,g6_B] <;> (try simp only [map_to_bind,some_elim,g6_O])
def g6_r:MRule:=RmO g6_E g6_B (fun a=>impl_decoder_number_o1a a.1 a.2) g6_O
theorem g6_ok:MRuleOk Tryd.prog 56 1 g6_r:=ok_rmo (S:=g6_S) (tf:=g6_tf) (SysOk.on ⟨g53_ok,trivial⟩ ⟨g17_ok,trivial⟩) (trE_ok (ks:=[]) Tryd.func56 (by kernel_rfl)) (by rfl) (fun _=>by simp [g6_B]) (fun _=>by simp) fun a=>g6_run a.1 a.2
@[simp] theorem g6_app (y0 y1 y2):g6_r [(.ptr 0 0 0),(.int .i64 y2)] [(.live 2 [[(.str y0),(.bool y1)]])]=(impl_decoder_number_o1a ((y0,y1)) y2).map g6_O:=by
  exact RmO_app (enc:=g6_E) (encB:=g6_B) (by intro a b h h2;simp [g6_E,g6_B,Prod.ext_iff] at h h2 ⊢;simp [h,h2]) ((y0,y1),y2)
end
end Go.Proofs.TM
