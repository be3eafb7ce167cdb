/- Functions of the program, as functions of their data: written by program. -/
import Derived.Test.YtfbolaoobodmoaaGreatTReadR
import Derived.Test.YtfbolaoobodmoaaGreatTIns
import Derived.Test.YtfbolaoobodmoaaGreatTLib
import Derived.Test.YtfbolaoobodmoaaGreatProg
import Derived.KernelRfl
namespace Go.Proofs.TM
open Go Go.Proofs
set_option linter.unusedVariables false
set_option linter.unusedSimpArgs false
set_option maxHeartbeats 1000000
attribute [-simp] Option.map_bind strV_some
attribute [simp] guardOn_bool sA_bslice Function.comp_def
noncomputable section
abbrev K1:=(List Str×List (Int×Str)×Int×Bool)×(Int×Int×Int×Int)×Int×Int×List (Int×Str)×List (Int×Str)
abbrev K0:=List Str×List (Int×Str)×Int×Bool
/-! laws.b10Long -/
def g96_tf:TFn:=⟨(sq [mk 2 (kb false)] [0] (.seq (.ops [mo 3 0,le 4 3,bn 5 .gtr (.t 4) (ki 1048576),mo 2 5]) (.keep (kp [(2,0)] [] 0) .ret))),[.t 2]⟩
abbrev g96_S:=Sys.on [] []
def laws_b10Long (a_code:List Bt):Option (Bool):=some ((decide ((a_code.length:Int) > 1048576)))
@[simp] def g96_O:Bool→TV×List Blk:=fun r=>((.bool r),[])
def g96_E (a:List Bt):List TV:=[(.vs (rows a))]
theorem g96_run (a_code:List Bt) :callFn (X g96_S) g96_tf (g96_E a_code) []=(laws_b10Long a_code).map g96_O:=by
  rw [callFn_eq]
  simp (maxSteps:=2000000) (maxDischargeDepth:=8) -implicitDefEqProofs [g96_tf,laws_b10Long,g96_E] <;> (try simp only [map_to_bind,some_elim,g96_O])
def g96_r:Rule:=RlO g96_E (fun a=>laws_b10Long a) g96_O
theorem g96_ok:RuleOk Tryz.prog 6 g96_r:=ok_rlo (S:=g96_S) (tf:=g96_tf) (SysOk.on trivial trivial) (trE_ok (ks:=[]) Tryz.func6 (by kernel_rfl)) fun a=>g96_run a
@[simp] theorem g96_app (y0):g96_r [(.vs (rows y0))]=(laws_b10Long y0).map g96_O :=
  RlO_app (enc:=g96_E) (by intro a b h;simp [g96_E,Prod.ext_iff] at h ⊢;simp [h]) y0
/-! spec.l00From -/
def g97_tf:TFn:=⟨(sq [mk 2 (.c .nilp)] [0] (.seq (.ops [mo 3 0,oo 4 (.build [.nils,(.int .i64 0),(.int .u64 0)] [(0,1,(.t 3))]),bx 5 4,mo 2 5]) (.keep (kp [(2,0)] [(0,0)] 0) .ret))),[.t 2]⟩
abbrev g97_S:=Sys.on [] []
def spec_l00From (a_code:List Bt):Option (List Bt×Int×Int):=some (a_code,0,0)
@[simp] def g97_O:(List Bt×Int×Int)→TV×List Blk:=fun r=>((.ptr 0 0 0),[(.live 3 [[(.vs (rows r.1)),(.int .i64 r.2.1),(.int .u64 r.2.2)]])])
def g97_E (a:List Bt):List TV:=[(.vs (rows a))]
theorem g97_run (a_code:List Bt) :callFn (X g97_S) g97_tf (g97_E a_code) []=(spec_l00From a_code).map g97_O:=by
  rw [callFn_eq]
  simp (maxSteps:=2000000) (maxDischargeDepth:=8) -implicitDefEqProofs [g97_tf,spec_l00From,g97_E] <;> (try simp only [map_to_bind,some_elim,g97_O])
def g97_r:Rule:=RlO g97_E (fun a=>spec_l00From a) g97_O
theorem g97_ok:RuleOk Tryz.prog 21 g97_r:=ok_rlo (S:=g97_S) (tf:=g97_tf) (SysOk.on trivial trivial) (trE_ok (ks:=[]) Tryz.func21 (by kernel_rfl)) fun a=>g97_run a
@[simp] theorem g97_app (y0):g97_r [(.vs (rows y0))]=(spec_l00From y0).map g97_O :=
  RlO_app (enc:=g97_E) (by intro a b h;simp [g97_E,Prod.ext_iff] at h ⊢;simp [h]) y0
/-! (*spec.l00Src).next -/
def g17p1_c:TC:=(sq [mo 25 0,nk 26 25,fa 27 1 26,ld 28 27,bn 29 .add (.t 28) (ki 1),nk 30 25,fa 31 1 30,⟨none,none,(.store 1 (.t 31) (.t 29))⟩] [0,3] (sq [mo 32 0,mo 33 0,nk 34 33,fa 35 2 34,ld 36 35,oo 37 (.bin .num .mul (.t 36) (.c (.int .u64 6364136223846793005))),mo 38 3,oo 39 (.conv (.toInt .u64) (.t 38)),bn 40 .add (.t 37) (.t 39),oo 41 (.bin .num .add (.t 40) (.c (.int .u64 1442695040888963407))),nk 42 32,fa 43 2 42,⟨none,none,(.store 1 (.t 43) (.t 41))⟩] [0,3] (.seq (.seq (.draw [([],mo 44 0),([0],nk 45 44),([0,1],fa 46 1 45),([0,1,2],ld 47 46),([],mo 48 0),([4],nk 49 48),([4,5],fa 50 0 49),([4,5,6],ld 51 50),([4,5,6,7],le 52 51)] [bn 53 .leq (.t 47) (.t 52)]) (.trim [0,3,53] (.cond (.t 53) (.seq (.ops [mo 54 3,mo 2 54]) (.keep (kp [(2,0)] [(0,0)] 1) .ret)) .skip))) (.trim [0] (.seq (.ops [mo 55 0,nk 56 55,fa 57 2 56,ld 58 57,oo 59 (.bin .num .shr (.t 58) (.c (.int .u64 40))),oo 60 (.bin .num .and (.t 59) (.c (.int .u64 255))),oo 61 (.conv (.toInt .i64) (.t 60)),mo 2 61]) (.keep (kp [(2,0)] [(0,0)] 1) .ret))))))
def g17_tf:TFn:=⟨(sq [mk 2 (ki 0)] [0] (sq [mk 3 (ki 0)] [0,3] (.seq (.seq (.draw [([],mo 4 0),([0],nk 5 4),([0,1],fa 6 1 5),([0,1,2],ld 7 6),([],mo 8 0),([4],nk 9 8),([4,5],fa 10 0 9),([4,5,6],ld 11 10),([4,5,6,7],le 12 11)] [bn 13 .lss (.t 7) (.t 12)]) (.trim [0,3,13] (.cond (.t 13) (.after (.draw [([],mo 14 0),([0],nk 15 14),([0,1],fa 16 0 15),([0,1,2],ld 17 16),([],mo 18 0),([4],nk 19 18),([4,5],fa 20 1 19),([4,5,6],ld 21 20)] [ia 22 1 17 21,ld 23 22,oo 24 (.conv (.toInt .i64) (.t 23)),mo 3 24]) (kp [(0,0),(3,0)] [(0,0)] 1)) (.keep (kp [(0,0),(3,0)] [(0,0)] 1) .skip)))) (.trim [0,3] g17p1_c)))),[.t 2]⟩
abbrev g17_S:=Sys.on [] []
@[reducible,simp] def g17p1_F:(List Bt×Int×Int×Int)→Out:=(fun t=>(.ret,[(2,(.int .i64 t.2.2.2))],[(.live 3 [[(.vs (rows t.1)),(.int .i64 t.2.1),(.int .u64 t.2.2.1)]])]))
def spec_l00Src_next_o9d_p1 (v2:List Bt) (v3:Int) (v4:Int) (v5:Int):Option (List Bt×Int×Int×Int):=if (IntKind.i64.wrap (v3+1))≤(v2.length:Int) then some ((v2,(IntKind.i64.wrap (v3+1)),(IntKind.u64.wrap ((IntKind.u64.wrap ((IntKind.u64.wrap (v4 * 6364136223846793005))+(IntKind.u64.wrap v5)))+1442695040888963407)),v5)) else some ((v2,(IntKind.i64.wrap (v3+1)),(IntKind.u64.wrap ((IntKind.u64.wrap ((IntKind.u64.wrap (v4 * 6364136223846793005))+(IntKind.u64.wrap v5)))+1442695040888963407)),(IntKind.i64.wrap ((bitV .and .u64 ((shrV .u64 ((IntKind.u64.wrap ((IntKind.u64.wrap ((IntKind.u64.wrap (v4 * 6364136223846793005))+(IntKind.u64.wrap v5)))+1442695040888963407))) 40)) 255)))))
@[simp] theorem g17p1_eq (y0 y1 y2 y3):X g17_S g17p1_c [(0,(.ptr 0 0 0)),(3,(.int .i64 y3))] [(.live 3 [[(.vs (rows y0)),(.int .i64 y1),(.int .u64 y2)]])]=(spec_l00Src_next_o9d_p1 y0 y1 y2 y3).map g17p1_F:=by
  simp (maxSteps:=2000000) (maxDischargeDepth:=8) -implicitDefEqProofs [g17p1_c,spec_l00Src_next_o9d_p1] <;> (try simp only [map_to_bind,some_elim,g17p1_F])
def spec_l00Src_next_o9d (a1:List Bt) (a2:Int) (a3:Int):Option (List Bt×Int×Int×Int):=if a2 < (a1.length:Int) then if 0≤a2 then (a1[(a2).toNat]?).bind fun x1=>(spec_l00Src_next_o9d_p1 a1 a2 a3 ((IntKind.i64.wrap ((x1.v.toNat:Int))))).bind fun r6=>some (r6.1,r6.2.1,r6.2.2.1,r6.2.2.2) else none else (spec_l00Src_next_o9d_p1 a1 a2 a3 0).bind fun r7=>some (r7.1,r7.2.1,r7.2.2.1,r7.2.2.2)
@[simp] def g17_O:(List Bt×Int×Int×Int)→TV×List Blk:=fun r=>((.int .i64 r.2.2.2),[(.live 3 [[(.vs (rows r.1)),(.int .i64 r.2.1),(.int .u64 r.2.2.1)]])])
abbrev g17_T:=List Bt×Int×Int
def g17_E (a:g17_T):List TV:=[(.ptr 0 0 0)]
def g17_B (a:g17_T):List Blk:=[(.live 3 [[(.vs (rows a.1)),(.int .i64 a.2.1),(.int .u64 a.2.2)]])]
theorem g17_run (a1:List Bt) (a2:Int) (a3:Int) :callFn (X g17_S) g17_tf (g17_E (a1,a2,a3)) (g17_B (a1,a2,a3))=(spec_l00Src_next_o9d a1 a2 a3).map g17_O:=by
  rw [callFn_eq]
  simp (maxSteps:=2000000) (maxDischargeDepth:=8) -implicitDefEqProofs [g17_tf,spec_l00Src_next_o9d,g17_E,g17_B] <;> (try simp only [map_to_bind,some_elim,g17_O])
def g17_r:MRule:=RmO g17_E g17_B (fun a=>spec_l00Src_next_o9d a.1 a.2.1 a.2.2) g17_O
theorem g17_ok:MRuleOk Tryz.prog 65 1 g17_r:=ok_rmo (S:=g17_S) (tf:=g17_tf) (SysOk.on trivial trivial) (trE_ok (ks:=[[9],[8],[9]]) Tryz.func65 (by kernel_rfl)) (by rfl) (fun _=>by simp [g17_B]) (fun _=>by simp) fun a=>g17_run a.1 a.2.1 a.2.2
@[simp] theorem g17_app (y0 y1 y2):g17_r [(.ptr 0 0 0)] [(.live 3 [[(.vs (rows y0)),(.int .i64 y1),(.int .u64 y2)]])]=(spec_l00Src_next_o9d y0 y1 y2).map g17_O:=by
  exact RmO_app (enc:=g17_E) (encB:=g17_B) (by intro a b h h2;simp [g17_E,g17_B,Prod.ext_iff] at h h2 ⊢;simp [h,h2]) (y0,y1,y2)
/-! (*spec.l00Src).pick -/
def g18_tf:TFn:=⟨(sq [mk 4 (ki 0)] [0,1] (.seq (sq [mo 6 1,bn 7 .leq (.t 6) (ki 1)] [0,1,7] (.cond (.t 7) (.seq (.ops [mk 4 (ki 0)]) (.keep (kp [(4,0)] [(0,0)] 1) .ret)) .skip)) (.trim [0,1] (sq [mo 8 0,oo 9 (.callM 65 0 [0] [.t 8]),mo 5 9] [0,1,5] (.seq (sq [mo 10 1,bn 11 .gtr (.t 10) (ki 200)] [0,1,5,11] (.cond (.t 11) (.after (.ops [mo 12 5,bn 13 .mul (.t 12) (ki 256),mo 14 0,oo 15 (.callM 65 0 [0] [.t 14]),bn 16 .add (.t 13) (.t 15),mo 5 16]) (kp [(1,0),(5,0)] [(0,0)] 1)) (.keep (kp [(1,0),(5,0)] [(0,0)] 1) .skip))) (.trim [1,5] (.seq (.ops [mo 17 5,mo 18 1,bn 19 .rem (.t 17) (.t 18),mo 4 19]) (.keep (kp [(4,0)] [(0,0)] 1) .ret)))))))),[.t 4]⟩
abbrev g18_S:=Sys.on [] [((65,0),(1,g17_r))]
def spec_l00Src_pick_o30 (a1:List Bt) (a2:Int) (a3:Int) (a4:Int):Option (List Bt×Int×Int×Int):=if a4≤1 then some (a1,a2,a3,0) else (spec_l00Src_next_o9d a1 a2 a3).bind fun r1=>if a4 > 200 then (spec_l00Src_next_o9d r1.1 r1.2.1 r1.2.2.1).bind fun r2=>if a4=0 then none else some (r2.1,r2.2.1,r2.2.2.1,(Int.tmod ((IntKind.i64.wrap ((IntKind.i64.wrap (r1.2.2.2 * 256))+r2.2.2.2))) a4)) else if a4=0 then none else some (r1.1,r1.2.1,r1.2.2.1,(Int.tmod r1.2.2.2 a4))
@[simp] def g18_O:(List Bt×Int×Int×Int)→TV×List Blk:=fun r=>((.int .i64 r.2.2.2),[(.live 3 [[(.vs (rows r.1)),(.int .i64 r.2.1),(.int .u64 r.2.2.1)]])])
abbrev g18_T:=List Bt×Int×Int×Int
def g18_E (a:g18_T):List TV:=[(.ptr 0 0 0),(.int .i64 a.2.2.2)]
def g18_B (a:g18_T):List Blk:=[(.live 3 [[(.vs (rows a.1)),(.int .i64 a.2.1),(.int .u64 a.2.2.1)]])]
theorem g18_run (a1:List Bt) (a2:Int) (a3:Int) (a4:Int) :callFn (X g18_S) g18_tf (g18_E (a1,a2,a3,a4)) (g18_B (a1,a2,a3,a4))=(spec_l00Src_pick_o30 a1 a2 a3 a4).map g18_O:=by
  rw [callFn_eq]
  simp (maxSteps:=2000000) (maxDischargeDepth:=8) -implicitDefEqProofs [g18_tf,spec_l00Src_pick_o30,g18_E,g18_B] <;> (try simp only [map_to_bind,some_elim,g18_O])
def g18_r:MRule:=RmO g18_E g18_B (fun a=>spec_l00Src_pick_o30 a.1 a.2.1 a.2.2.1 a.2.2.2) g18_O
theorem g18_ok:MRuleOk Tryz.prog 45 1 g18_r:=ok_rmo (S:=g18_S) (tf:=g18_tf) (SysOk.on trivial ⟨g17_ok,trivial⟩) (trE_ok (ks:=[]) Tryz.func45 (by kernel_rfl)) (by rfl) (fun _=>by simp [g18_B]) (fun _=>by simp) fun a=>g18_run a.1 a.2.1 a.2.2.1 a.2.2.2
@[simp] theorem g18_app (y0 y1 y2 y3):g18_r [(.ptr 0 0 0),(.int .i64 y3)] [(.live 3 [[(.vs (rows y0)),(.int .i64 y1),(.int .u64 y2)]])]=(spec_l00Src_pick_o30 y0 y1 y2 y3).map g18_O:=by
  exact RmO_app (enc:=g18_E) (encB:=g18_B) (by intro a b h h2;simp [g18_E,g18_B,Prod.ext_iff] at h h2 ⊢;simp [h,h2]) (y0,y1,y2,y3)
/-! (*spec.l00Src).among -/
def g15_tf:TFn:=⟨(sq [mk 4 (ki 0)] [0,1] (.seq (.ops [mo 5 1,mo 6 0,mo 7 1,le 8 7,oo 9 (.callM 45 0 [0] [.t 6,.t 8]),ia 10 1 5 9,ld 11 10,mo 4 11]) (.keep (kp [(4,0)] [(0,0),(1,0)] 2) .ret))),[.t 4]⟩
abbrev g15_S:=Sys.on [] [((45,0),(1,g18_r))]
def spec_l00Src_among_o72 (a1:List Bt) (a2:Int) (a3:Int) (a4:List Int):Option (List Bt×Int×Int×List Int×Int):=(spec_l00Src_pick_o30 a1 a2 a3 (((a4.length:Nat):Int))).bind fun r1=>if 0≤r1.2.2.2∧r1.2.2.2 < ((a4.length:Nat):Int) then (a4[(r1.2.2.2).toNat]?).bind fun x2=>some (r1.1,r1.2.1,r1.2.2.1,a4,x2) else none
@[simp] def g15_O:(List Bt×Int×Int×List Int×Int)→TV×List Blk:=fun r=>((.int .i64 r.2.2.2.2),[(.live 3 [[(.vs (rows r.1)),(.int .i64 r.2.1),(.int .u64 r.2.2.1)]]),(.live 1 (rows r.2.2.2.1))])
abbrev g15_T:=List Bt×Int×Int×List Int
def g15_E (a:g15_T):List TV:=[(.ptr 0 0 0),(.hs 1 0 a.2.2.2.length true)]
def g15_B (a:g15_T):List Blk:=[(.live 3 [[(.vs (rows a.1)),(.int .i64 a.2.1),(.int .u64 a.2.2.1)]]),(.live 1 (rows a.2.2.2))]
theorem g15_run (a1:List Bt) (a2:Int) (a3:Int) (a4:List Int) :callFn (X g15_S) g15_tf (g15_E (a1,a2,a3,a4)) (g15_B (a1,a2,a3,a4))=(spec_l00Src_among_o72 a1 a2 a3 a4).map g15_O:=by
  rw [callFn_eq]
  simp (maxSteps:=2000000) (maxDischargeDepth:=8) -implicitDefEqProofs [g15_tf,spec_l00Src_among_o72,g15_E,g15_B] <;> (try simp only [map_to_bind,some_elim,g15_O])
def g15_r:MRule:=RmO g15_E g15_B (fun a=>(spec_l00Src_among_o72 a.1 a.2.1 a.2.2.1 a.2.2.2).bind fun r=>if r.2.2.2.1.length=a.2.2.2.length then some (r.1,r.2.1,r.2.2.1,(fixLen a.2.2.2 r.2.2.2.1),r.2.2.2.2) else none) g15_O
theorem g15_ok0:MRuleOk Tryz.prog 33 2 (RmO g15_E g15_B (fun a=>spec_l00Src_among_o72 a.1 a.2.1 a.2.2.1 a.2.2.2) g15_O):=ok_rmo (S:=g15_S) (tf:=g15_tf) (SysOk.on trivial ⟨g18_ok,trivial⟩) (trE_ok (ks:=[]) Tryz.func33 (by kernel_rfl)) (by rfl) (fun _=>by simp [g15_B]) (fun _=>by simp) fun a=>g15_run a.1 a.2.1 a.2.2.1 a.2.2.2
theorem g15_ok:MRuleOk Tryz.prog 33 2 g15_r:=g15_ok0.weak fun a r hr=>by
  simp only [Option.bind_eq_some_iff] at hr
  obtain ⟨x,h1,h2⟩:=hr
  split at h2
  · rename_i hc
    simp only [Option.some.injEq] at h2
    rw [h1,← h2]
    simp [fixLen,hc]
  · cases h2
@[simp] theorem g15_app (y0 y1 y2)(y3:List Int){n1:Nat}(h1:n1=y3.length):g15_r [(.ptr 0 0 0),(.hs 1 0 n1 true)] [(.live 3 [[(.vs (rows y0)),(.int .i64 y1),(.int .u64 y2)]]),(.live 1 (rows y3))]=((spec_l00Src_among_o72 y0 y1 y2 y3).bind fun r=>if r.2.2.2.1.length=y3.length then some (r.1,r.2.1,r.2.2.1,(fixLen y3 r.2.2.2.1),r.2.2.2.2) else none).map g15_O:=by
  subst h1
  exact RmO_app (enc:=g15_E) (encB:=g15_B) (by intro a b h h2;simp [g15_E,g15_B,Prod.ext_iff] at h h2 ⊢;simp [h,h2]) (y0,y1,y2,y3)
/-! spec.l09Zero -/
def g98_tf:TFn:=⟨(sq [mk 0 (.c (.str []))] [] (.seq (.ops [oo 1 (.mkslice 1 [(.int .u8 0)] (ki 64) (ki 64)),oo 2 (.conv .toStr (.t 1)),mo 0 2]) (.keep (kp [(0,0)] [] 0) .ret))),[.t 0]⟩
abbrev g98_S:=Sys.on [] []
def spec_l09Zero :Option (Str):=(mkL 1 64 64 ((⟨0⟩:Bt):Bt)).bind fun l1=>some ((l1.map Bt.v))
@[simp] def g98_O:Str→TV×List Blk:=fun r=>((.str r),[])
def g98_E (a:Unit):List TV:=[]
theorem g98_run  :callFn (X g98_S) g98_tf (g98_E ()) []=(spec_l09Zero ).map g98_O:=by
  rw [callFn_eq]
  simp (maxSteps:=2000000) (maxDischargeDepth:=8) -implicitDefEqProofs [g98_tf,spec_l09Zero,g98_E,mksliceV_typed (z:=((⟨0⟩:Bt):Bt)) (zs:=[(.int .u8 0)]) rfl (by decide)] <;> (try simp only [map_to_bind,some_elim,g98_O])
def g98_r:Rule:=RlO g98_E (fun a=>spec_l09Zero ) g98_O
theorem g98_ok:RuleOk Tryz.prog 63 g98_r:=ok_rlo (S:=g98_S) (tf:=g98_tf) (SysOk.on trivial trivial) (trE_ok (ks:=[]) Tryz.func63 (by kernel_rfl)) fun a=>g98_run 
@[simp] theorem g98_app :g98_r []=(spec_l09Zero ).map g98_O :=
  RlO_app (enc:=g98_E) (by intro a b h;rfl) ()
/-! spec.l09New -/
def g116l1_cb:TC:=(.seq (sq [mo 6 4,mo 7 0,bn 8 .lss (.t 6) (.t 7)] [0,2,3,4,8] (.cond (.t 8) .skip (.keep (kp [(2,0),(3,0)] [(0,2),(1,2),(2,1)] 0) (.exit 0)))) (.trim [0,2,3,4] (.seq (.block 1 (.draw [([],fa 11 0 3),([0],ld 12 11),([],ca 13 63 []),([2],oo 14 (.bslice [(.str [])] 1 [(0,(.t 13))]))] [oo 15 (.append 9 1 16 (.t 12) (.t 14)),fa 16 0 3,⟨none,none,(.store 1 (.t 16) (.t 15))⟩])) (.trim [0,2,3,4] (.after (.ops [mo 9 4,bn 10 .add (.t 9) (ki 1),mo 4 10]) (kp [(0,0),(2,0),(3,0),(4,0)] [(0,2),(1,2),(4,1)] 0))))))
def g116l1_c:TC:=.loop [0,2,3,4] g116l1_cb
def g116_tf:TFn:=⟨(sq [oo 2 (.alloc [.nils,.nils,(.int .i64 0),(.bool false)])] [0,2] (sq [oo 5 (.build [.nils,.nils,(.int .i64 0),(.bool false)] [(2,1,(ki (-1)))]),oo 3 (.alloc [.nils,.nils,(.int .i64 0),(.bool false)]),⟨none,none,(.store 4 (.t 3) (.t 5))⟩] [0,2,3] (.seq (sq [mk 4 (ki 0)] [0,2,3,4] (.block 0 (.keep (kp [(0,0),(2,0),(3,0),(4,0)] [(0,2),(1,2),(1000,1)] 0) g116l1_c))) (.trim [2,3] (.seq (.ops [ln 17 4 3,⟨none,none,(.store 4 (.t 2) (.t 17))⟩]) (.keep (kp [(2,0)] [(0,2),(2,1)] 0) .ret)))))),[.cell 2 (some 4)]⟩
abbrev g116_S:=Sys.on [(63,g98_r)] []
@[reducible,simp] def g116l1_F:(Int×Bool×List Str×Int×Bool)→Out:=(fun t=>(.ext 0,[(2,(.ptr 0 0 0)),(3,(.ptr 1 0 0))],[(.live 4 [[.es,.es,(.int .i64 t.1),(.bool t.2.1)]]),(.live 4 [[(ow 2 t.2.2.1.length),.es,(.int .i64 t.2.2.2.1),(.bool t.2.2.2.2)]]),(ob 1 t.2.2.1)]))
def spec_l09New_l1_b (v1:Int) (v2:Int) (v3:Bool) (v5:Int) (v6:Bool) (v4:List Str) (v7:Int):Option ((List Str×Int) ⊕ (Int×Bool×List Str×Int×Bool)):=if v7 < v1 then (spec_l09Zero).bind fun r8=>(appL 16 v4 ((lit [r8]:List Str))).bind fun l9=>some (.inl (l9,(IntKind.i64.wrap (v7+1)))) else some (.inr (v2,v3,v4,v5,v6))
theorem g116l1_b_eq  (v1:Int) (v2:Int) (v3:Bool) (v5:Int) (v6:Bool) (v4:List Str) (v7:Int):X g116_S g116l1_cb (keepEnv [0,2,3,4] [(0,(.int .i64 v1)),(2,(.ptr 0 0 0)),(3,(.ptr 1 0 0)),(4,(.int .i64 v7))]) [(.live 4 [[.es,.es,(.int .i64 v2),(.bool v3)]]),(.live 4 [[(ow 2 v4.length),.es,(.int .i64 v5),(.bool v6)]]),(ob 1 v4)]=(spec_l09New_l1_b v1 v2 v3 v5 v6 v4 v7).map (Sum.elim (fun s=>(TX.nrm,[(0,(.int .i64 v1)),(2,(.ptr 0 0 0)),(3,(.ptr 1 0 0)),(4,(.int .i64 s.2))],[(.live 4 [[.es,.es,(.int .i64 v2),(.bool v3)]]),(.live 4 [[(ow 2 s.1.length),.es,(.int .i64 v5),(.bool v6)]]),(ob 1 s.1)])) g116l1_F):=by
  simp (maxSteps:=2000000) (maxDischargeDepth:=8) -implicitDefEqProofs [g116l1_cb,spec_l09New_l1_b,bslV_lit (α:=Str) (zs:=[(.str [])])] <;> (try simp only [map_to_bind,some_elim,g116l1_F])
def spec_l09New_l1 (v1:Int) (v2:Int) (v3:Bool) (v5:Int) (v6:Bool) (s:List Str×Int):Option (Int×Bool×List Str×Int×Bool):=loopO (fun s=>spec_l09New_l1_b v1 v2 v3 v5 v6 s.1 s.2) s
@[simp] theorem g116l1_eq (y0 y1 y2)(y3:List Str)(y4 y5 y6){n1:Nat}(h1:n1=y3.length):X g116_S g116l1_c [(0,(.int .i64 y0)),(2,(.ptr 0 0 0)),(3,(.ptr 1 0 0)),(4,(.int .i64 y6))] [(.live 4 [[.es,.es,(.int .i64 y1),(.bool y2)]]),(.live 4 [[(ow 2 n1),.es,(.int .i64 y4),(.bool y5)]]),(ob 1 y3)]=(spec_l09New_l1 y0 y1 y2 y4 y5 (y3,y6)).map g116l1_F:=by
  subst h1
  exact loop_X _ _ _ _ (by intro r;first | (simp;done) | (rcases r with r | r <;> simp;done) | (rcases r with r | r | r <;> simp;done) | (rcases r with r | r | r | r <;> simp)) (fun s=>g116l1_b_eq  y0 y1 y2 y4 y5 s.1 s.2) (y3,y6)
@[simp] theorem g116l1_eq_3 (y0 y1 y2 y3 y4 y5):X g116_S g116l1_c [(0,(.int .i64 y0)),(2,(.ptr 0 0 0)),(3,(.ptr 1 0 0)),(4,(.int .i64 y5))] [(.live 4 [[.es,.es,(.int .i64 y1),(.bool y2)]]),(.live 4 [[.es,.es,(.int .i64 y3),(.bool y4)]]),.dead]=(spec_l09New_l1 y0 y1 y2 y3 y4 (([]:List Str),y5)).map g116l1_F :=
  g116l1_eq  y0 y1 y2 ([]:List Str) y3 y4 y5 rfl
def spec_l09New (a_blocks:Int):Option (List Str×Int×Bool):=(spec_l09New_l1 a_blocks 0 false ((-1)) false ((([]:List Str),0))).bind fun r10=>some (r10.2.2.1,r10.2.2.2.1,r10.2.2.2.2)
@[simp] def g116_O:(List Str×Int×Bool)→TV×List Blk:=fun r=>((.agg [(ow 1 r.1.length),.es,(.int .i64 r.2.1),(.bool r.2.2)]),[(.live 4 [[(ow 1 r.1.length),.es,(.int .i64 r.2.1),(.bool r.2.2)]]),(ob 1 r.1)])
def g116_E (a:Int):List TV:=[(.int .i64 a)]
theorem g116_run (a_blocks:Int) :callFn (X g116_S) g116_tf (g116_E a_blocks) []=(spec_l09New a_blocks).map g116_O:=by
  rw [callFn_eq]
  simp (maxSteps:=2000000) (maxDischargeDepth:=8) -implicitDefEqProofs [g116_tf,spec_l09New,g116_E,bslV_lit (α:=Str) (zs:=[(.str [])])] <;> (try simp only [map_to_bind,some_elim,g116_O])
def g116_r:Rule:=RlO g116_E (fun a=>spec_l09New a) g116_O
theorem g116_ok:RuleOk Tryz.prog 133 g116_r:=ok_rlo (S:=g116_S) (tf:=g116_tf) (SysOk.on ⟨g98_ok,trivial⟩ trivial) (trE_ok (ks:=[[0,2,3,4],[4]]) Tryz.func133 (by kernel_rfl)) fun a=>g116_run a
@[simp] theorem g116_app (y0):g116_r [(.int .i64 y0)]=(spec_l09New y0).map g116_O :=
  RlO_app (enc:=g116_E) (by intro a b h;simp [g116_E,Prod.ext_iff] at h ⊢;simp [h]) y0
/-! spec.l01Bytes -/
def g86l1_cb:TC:=(.seq (sq [mo 8 6,mo 9 1,bn 10 .lss (.t 8) (.t 9)] [0,1,5,6,10] (.cond (.t 10) .skip (.keep (kp [(5,1)] [(0,1)] 0) (.exit 0)))) (.trim [0,1,5,6] (.seq (.block 1 (.ops [mo 13 5,mo 14 0,mo 15 6,oo 16 (.conv (.toInt .u64) (.t 15)),oo 17 (.bin .num .mul (.c (.int .u64 8)) (.t 16)),bn 18 .shr (.t 14) (.t 17),bn 19 .and (.t 18) (ki 255),oo 20 (.conv (.toInt .u8) (.t 19)),oo 21 (.bslice [(.int .u8 0)] 1 [(0,(.t 20))]),oo 22 (.append 5 1 1 (.t 13) (.t 21)),mo 5 22])) (.trim [0,1,5,6] (.after (.ops [mo 11 6,bn 12 .add (.t 11) (ki 1),mo 6 12]) (kp [(0,0),(1,0),(5,1),(6,0)] [(2,1)] 0))))))
def g86l1_c:TC:=.loop [0,1,5,6] g86l1_cb
def g86_tf:TFn:=⟨(sq [mk 4 (.c (.str []))] [0,1] (sq [oo 7 (.bslice [(.int .u8 0)] 0 []),mo 5 7] [0,1,5] (.seq (sq [mk 6 (ki 0)] [0,1,5,6] (.block 0 (.keep (kp [(0,0),(1,0),(5,1),(6,0)] [(1000,1)] 0) g86l1_c))) (.trim [5] (.seq (.ops [mo 23 5,oo 24 (.conv .toStr (.t 23)),mo 4 24]) (.keep (kp [(4,0)] [] 0) .ret)))))),[.t 4]⟩
abbrev g86_S:=Sys.on [] []
@[reducible,simp] def g86l1_F:(List Bt)→Out:=(fun t=>(.ext 0,[(5,(ow 0 t.length))],[(ob 1 t)]))
def spec_l01Bytes_l1_b (v1:Int) (v2:Int) (v3:List Bt) (v4:Int):Option ((List Bt×Int) ⊕ (List Bt)):=if v4 < v2 then if (IntKind.u64.wrap (8 * ((IntKind.u64.wrap v4)))) < 0 then none else (appL 1 v3 ((lit [(⟨UInt8.ofNat ((IntKind.u8.wrap ((bitV .and .i64 ((shrV .i64 v1 ((IntKind.u64.wrap (8 * ((IntKind.u64.wrap v4))))))) 255)))).toNat⟩:Bt)]:List Bt))).bind fun l5=>some (.inl (l5,(IntKind.i64.wrap (v4+1)))) else some (.inr v3)
theorem g86l1_b_eq  (v1:Int) (v2:Int) (v3:List Bt) (v4:Int):X g86_S g86l1_cb (keepEnv [0,1,5,6] [(0,(.int .i64 v1)),(1,(.int .i64 v2)),(5,(ow 0 v3.length)),(6,(.int .i64 v4))]) [(ob 1 v3)]=(spec_l01Bytes_l1_b v1 v2 v3 v4).map (Sum.elim (fun s=>(TX.nrm,[(0,(.int .i64 v1)),(1,(.int .i64 v2)),(5,(ow 0 s.1.length)),(6,(.int .i64 s.2))],[(ob 1 s.1)])) g86l1_F):=by
  simp (maxSteps:=2000000) (maxDischargeDepth:=8) -implicitDefEqProofs [g86l1_cb,spec_l01Bytes_l1_b,bslV_lit (α:=Bt) (zs:=[(.int .u8 0)])] <;> (try simp only [map_to_bind,some_elim,g86l1_F])
def spec_l01Bytes_l1 (v1:Int) (v2:Int) (s:List Bt×Int):Option (List Bt):=loopO (fun s=>spec_l01Bytes_l1_b v1 v2 s.1 s.2) s
@[simp] theorem g86l1_eq (y0 y1)(y2:List Bt)(y3){n1:Nat}(h1:n1=y2.length):X g86_S g86l1_c [(0,(.int .i64 y0)),(1,(.int .i64 y1)),(5,(ow 0 n1)),(6,(.int .i64 y3))] [(ob 1 y2)]=(spec_l01Bytes_l1 y0 y1 (y2,y3)).map g86l1_F:=by
  subst h1
  exact loop_X _ _ _ _ (by intro r;first | (simp;done) | (rcases r with r | r <;> simp;done) | (rcases r with r | r | r <;> simp;done) | (rcases r with r | r | r | r <;> simp)) (fun s=>g86l1_b_eq  y0 y1 s.1 s.2) (y2,y3)
@[simp] theorem g86l1_eq_2 (y0 y1 y2):X g86_S g86l1_c [(0,(.int .i64 y0)),(1,(.int .i64 y1)),(5,.es),(6,(.int .i64 y2))] [.dead]=(spec_l01Bytes_l1 y0 y1 (([]:List Bt),y2)).map g86l1_F :=
  g86l1_eq  y0 y1 ([]:List Bt) y2 rfl
def spec_l01Bytes (a_n:Int) (a_size:Int):Option (Str):=(spec_l01Bytes_l1 a_n a_size ((([]:List Bt),0))).bind fun r6=>some ((r6.map Bt.v))
@[simp] def g86_O:Str→TV×List Blk:=fun r=>((.str r),[])
def g86_E (a:Int×Int):List TV:=[(.int .i64 a.1),(.int .i64 a.2)]
theorem g86_run (a_n:Int) (a_size:Int) :callFn (X g86_S) g86_tf (g86_E (a_n,a_size)) []=(spec_l01Bytes a_n a_size).map g86_O:=by
  rw [callFn_eq]
  simp (maxSteps:=2000000) (maxDischargeDepth:=8) -implicitDefEqProofs [g86_tf,spec_l01Bytes,g86_E,bslV_lit (α:=Bt) (zs:=[(.int .u8 0)])] <;> (try simp only [map_to_bind,some_elim,g86_O])
def g86_r:Rule:=RlO g86_E (fun a=>spec_l01Bytes a.1 a.2) g86_O
theorem g86_ok:RuleOk Tryz.prog 153 g86_r:=ok_rlo (S:=g86_S) (tf:=g86_tf) (SysOk.on trivial trivial) (trE_ok (ks:=[[0,1,5,6]]) Tryz.func153 (by kernel_rfl)) fun a=>g86_run a.1 a.2
@[simp] theorem g86_app (y0 y1):g86_r [(.int .i64 y0),(.int .i64 y1)]=(spec_l01Bytes y0 y1).map g86_O :=
  RlO_app (enc:=g86_E) (by intro a b h;simp [g86_E,Prod.ext_iff] at h ⊢;simp [h]) (y0,y1)
/-! spec.l01Pad -/
def g117_tf:TFn:=⟨(sq [mk 4 (.c (.str []))] [0,1] (.seq (sq [mo 5 0,oo 6 (.len true (.t 5)),mo 7 1,bn 8 .geq (.t 6) (.t 7)] [0,1,8] (.cond (.t 8) (.seq (.ops [mo 9 0,mo 4 9]) (.keep (kp [(4,0)] [] 0) .ret)) .skip)) (.trim [0,1] (.seq (.ops [mo 10 0,mo 11 1,mo 12 0,oo 13 (.len true (.t 12)),bn 14 .sub (.t 11) (.t 13),oo 15 (.mkslice 1 [(.int .u8 0)] (.t 14) (.t 14)),oo 16 (.conv .toStr (.t 15)),oo 17 (.bin .str .add (.t 10) (.t 16)),mo 4 17]) (.keep (kp [(4,0)] [] 0) .ret))))),[.t 4]⟩
abbrev g117_S:=Sys.on [] []
def spec_l01Pad (a_s:Str) (a_n:Int):Option (Str):=if (a_s.length:Int) ≥ a_n then some a_s else (mkL 1 ((IntKind.i64.wrap (a_n - ((a_s.length:Int))))) ((IntKind.i64.wrap (a_n - ((a_s.length:Int))))) ((⟨0⟩:Bt):Bt)).bind fun l1=>if a_s.length+((l1.map Bt.v)).length≤9223372036854775807 then some ((a_s++(l1.map Bt.v))) else none
@[simp] def g117_O:Str→TV×List Blk:=fun r=>((.str r),[])
def g117_E (a:Str×Int):List TV:=[(.str a.1),(.int .i64 a.2)]
theorem g117_run (a_s:Str) (a_n:Int) :callFn (X g117_S) g117_tf (g117_E (a_s,a_n)) []=(spec_l01Pad a_s a_n).map g117_O:=by
  rw [callFn_eq]
  simp (maxSteps:=2000000) (maxDischargeDepth:=8) -implicitDefEqProofs [g117_tf,spec_l01Pad,g117_E,mksliceV_typed (z:=((⟨0⟩:Bt):Bt)) (zs:=[(.int .u8 0)]) rfl (by decide)] <;> (try simp only [map_to_bind,some_elim,g117_O])
def g117_r:Rule:=RlO g117_E (fun a=>spec_l01Pad a.1 a.2) g117_O
theorem g117_ok:RuleOk Tryz.prog 66 g117_r:=ok_rlo (S:=g117_S) (tf:=g117_tf) (SysOk.on trivial trivial) (trE_ok (ks:=[]) Tryz.func66 (by kernel_rfl)) fun a=>g117_run a.1 a.2
@[simp] theorem g117_app (y0 y1):g117_r [(.str y0),(.int .i64 y1)]=(spec_l01Pad y0 y1).map g117_O :=
  RlO_app (enc:=g117_E) (by intro a b h;simp [g117_E,Prod.ext_iff] at h ⊢;simp [h]) (y0,y1)
/-! spec.l10Encode -/
def g71_tf:TFn:=⟨(sq [bx 1 0,mk 2 (.c (.str []))] [1] (.seq (.draw [([],ca 4 153 [ki 1,ki 1]),([0],oo 5 (.bin .str .add (.c (.str [65,82,82,83])) (.t 4))),([],fa 6 0 1),([2],ld 7 6),([0,2,3],ca 8 153 [.t 7,ki 2]),([0,1,2,3,4],oo 9 (.bin .str .add (.t 5) (.t 8))),([],fa 10 1 1),([6],ld 11 10),([0,2,3,4,6,7],ca 12 153 [.t 11,ki 2]),([0,1,2,3,4,5,6,7,8],oo 13 (.bin .str .add (.t 9) (.t 12))),([],fa 14 2 1),([10],ld 15 14),([0,2,3,4,6,7,8,10,11],ca 16 153 [.t 15,ki 8]),([0,1,2,3,4,5,6,7,8,9,10,11,12],oo 17 (.bin .str .add (.t 13) (.t 16))),([],fa 18 3 1),([14],ld 19 18),([0,2,3,4,6,7,8,10,11,12,14,15],ca 20 153 [.t 19,ki 8])] [oo 21 (.bin .str .add (.t 17) (.t 20)),mo 3 21]) (.trim [3] (sq [mo 22 3,ca 23 66 [.t 22,ki 32],mo 3 23] [3] (.seq (.ops [mo 24 3,mo 25 3,oo 26 (.bin .str .add (.t 24) (.t 25)),mo 2 26]) (.keep (kp [(2,0)] [] 0) .ret)))))),[.t 2]⟩
abbrev g71_S:=Sys.on [(153,g86_r),(66,g117_r)] []
def spec_l10Encode (a_s:Int×Int×Int×Int):Option (Str):=(spec_l01Bytes 1 1).bind fun r1=>if (([65,82,82,83]:Str)).length+r1.length≤9223372036854775807 then (spec_l01Bytes a_s.1 2).bind fun r2=>if ((([65,82,82,83]:Str)++r1)).length+r2.length≤9223372036854775807 then (spec_l01Bytes a_s.2.1 2).bind fun r3=>if (((([65,82,82,83]:Str)++r1)++r2)).length+r3.length≤9223372036854775807 then (spec_l01Bytes a_s.2.2.1 8).bind fun r4=>if ((((([65,82,82,83]:Str)++r1)++r2)++r3)).length+r4.length≤9223372036854775807 then (spec_l01Bytes a_s.2.2.2 8).bind fun r5=>if (((((([65,82,82,83]:Str)++r1)++r2)++r3)++r4)).length+r5.length≤9223372036854775807 then (spec_l01Pad ((((((([65,82,82,83]:Str)++r1)++r2)++r3)++r4)++r5)) 32).bind fun r6=>if r6.length+r6.length≤9223372036854775807 then some ((r6++r6)) else none else none else none else none else none else none
@[simp] def g71_O:Str→TV×List Blk:=fun r=>((.str r),[])
def g71_E (a:(Int×Int×Int×Int)):List TV:=[(.agg [(.int .i64 a.1),(.int .i64 a.2.1),(.int .i64 a.2.2.1),(.int .i64 a.2.2.2)])]
theorem g71_run (a_s:Int×Int×Int×Int) :callFn (X g71_S) g71_tf (g71_E a_s) []=(spec_l10Encode a_s).map g71_O:=by
  rw [callFn_eq]
  simp (maxSteps:=2000000) (maxDischargeDepth:=8) -implicitDefEqProofs [g71_tf,spec_l10Encode,g71_E] <;> (try simp only [map_to_bind,some_elim,g71_O])
def g71_r:Rule:=RlO g71_E (fun a=>spec_l10Encode a) g71_O
theorem g71_ok:RuleOk Tryz.prog 134 g71_r:=ok_rlo (S:=g71_S) (tf:=g71_tf) (SysOk.on ⟨g86_ok,g117_ok,trivial⟩ trivial) (trE_ok (ks:=[[17]]) Tryz.func134 (by kernel_rfl)) fun a=>g71_run a
@[simp] theorem g71_app (y0 y1 y2 y3):g71_r [(.agg [(.int .i64 y0),(.int .i64 y1),(.int .i64 y2),(.int .i64 y3)])]=(spec_l10Encode ((y0,y1,y2,y3))).map g71_O :=
  RlO_app (enc:=g71_E) (by intro a b h;simp [g71_E,Prod.ext_iff] at h ⊢;simp [h]) ((y0,y1,y2,y3))
/-! spec.l10Format -/
def g72_tf:TFn:=⟨(sq [bx 1 0,oo 2 (.alloc [.nils,.nils,(.int .i64 0),(.bool false)])] [1,2] (sq [fa 4 0 1,ld 5 4,ca 6 133 [.t 5],oo 3 (.alloc [.nils,.nils,(.int .i64 0),(.bool false)]),⟨none,none,(.store 4 (.t 3) (.t 6))⟩] [1,2,3] (.seq (.draw [([],fa 7 0 3),([0],ld 8 7),([],ln 9 4 1),([2],ca 10 134 [.t 9])] [oo 11 (.iaddr 1 (.t 8) (ki 0)),⟨none,none,(.store 1 (.t 11) (.t 10))⟩]) (.trim [2,3] (.seq (.ops [ln 12 4 3,⟨none,none,(.store 4 (.t 2) (.t 12))⟩]) (.keep (kp [(2,0)] [(1,2),(3,1)] 0) .ret)))))),[.cell 2 (some 4)]⟩
abbrev g72_S:=Sys.on [(133,g116_r),(134,g71_r)] []
def spec_l10Format (a_s:Int×Int×Int×Int):Option (List Str×Int×Bool):=(spec_l09New a_s.1).bind fun r1=>(spec_l10Encode a_s).bind fun r2=>if 0≤(0:Int)∧(0:Int) < ((r1.1.length:Nat):Int) then (r1.1[((0:Int)).toNat]?).bind fun x3=>some ((r1.1.set ((0:Int)).toNat r2),r1.2.1,r1.2.2) else none
@[simp] def g72_O:(List Str×Int×Bool)→TV×List Blk:=fun r=>((.agg [(ow 1 r.1.length),.es,(.int .i64 r.2.1),(.bool r.2.2)]),[(.live 4 [[(ow 1 r.1.length),.es,(.int .i64 r.2.1),(.bool r.2.2)]]),(ob 1 r.1)])
def g72_E (a:(Int×Int×Int×Int)):List TV:=[(.agg [(.int .i64 a.1),(.int .i64 a.2.1),(.int .i64 a.2.2.1),(.int .i64 a.2.2.2)])]
theorem g72_run (a_s:Int×Int×Int×Int) :callFn (X g72_S) g72_tf (g72_E a_s) []=(spec_l10Format a_s).map g72_O:=by
  rw [callFn_eq]
  simp (maxSteps:=2000000) (maxDischargeDepth:=8) -implicitDefEqProofs [g72_tf,spec_l10Format,g72_E] <;> (try simp only [map_to_bind,some_elim,g72_O])
def g72_r:Rule:=RlO g72_E (fun a=>spec_l10Format a) g72_O
theorem g72_ok:RuleOk Tryz.prog 97 g72_r:=ok_rlo (S:=g72_S) (tf:=g72_tf) (SysOk.on ⟨g116_ok,g71_ok,trivial⟩ trivial) (trE_ok (ks:=[[4]]) Tryz.func97 (by kernel_rfl)) fun a=>g72_run a
@[simp] theorem g72_app (y0 y1 y2 y3):g72_r [(.agg [(.int .i64 y0),(.int .i64 y1),(.int .i64 y2),(.int .i64 y3)])]=(spec_l10Format ((y0,y1,y2,y3))).map g72_O :=
  RlO_app (enc:=g72_E) (by intro a b h;simp [g72_E,Prod.ext_iff] at h ⊢;simp [h]) ((y0,y1,y2,y3))
/-! spec.l09Read -/
def g99l1_cb:TC:=(.seq (sq [mo 12 5,bn 13 .geq (.t 12) (ki 0)] [0,1,5,13] (.cond (.t 13) .skip (.keep (kp [(0,0),(1,0)] [] 0) (.exit 0)))) (.trim [0,1,5] (.seq (.block 1 (sq [mo 16 0,nk 17 16,fa 18 1 17,ld 19 18,mo 20 5,ia 21 2 19 20,fa 22 0 21,ld 23 22,mo 24 1,bn 25 .eql (.t 23) (.t 24)] [0,1,5,25] (.cond (.t 25) (.seq (.ops [mo 26 0,nk 27 26,fa 28 1 27,ld 29 28,mo 30 5,ia 31 2 29 30,fa 32 1 31,ld 33 32,mo 4 33]) (.keep (kp [(4,0)] [] 0) .ret)) .skip))) (.trim [0,1,5] (.after (.ops [mo 14 5,bn 15 .sub (.t 14) (ki 1),mo 5 15]) (kp [(0,0),(1,0),(5,0)] [] 0))))))
def g99l1_c:TC:=.loop [0,1,5] g99l1_cb
def g99_tf:TFn:=⟨(sq [mk 4 (.c (.str []))] [0,1] (.seq (sq [mo 6 0,nk 7 6,fa 8 1 7,ld 9 8,le 10 9,bn 11 .sub (.t 10) (ki 1),mo 5 11] [0,1,5] (.block 0 (.keep (kp [(0,0),(1,0),(5,0)] [] 0) g99l1_c))) (.trim [0,1] (.seq (.ops [mo 34 0,nk 35 34,fa 36 0 35,ld 37 36,mo 38 1,ia 39 1 37 38,ld 40 39,mo 4 40]) (.keep (kp [(4,0)] [] 0) .ret))))),[.t 4]⟩
abbrev g99_S:=Sys.on [] []
def spec_l09Read_l1_b (v1:List Str) (v2:List (Int×Str)) (v3:Int) (v4:Bool) (v5:Int) (v6:Int):Option ((Int) ⊕ ((List Str×(List (Int×Str))×Int×Bool×Int) ⊕ (Str))):=if v6 ≥ 0 then if 0≤v6 then (v2[(v6).toNat]?).bind fun x7=>if x7.1=v5 then if 0≤v6 then (v2[(v6).toNat]?).bind fun x8=>some (.inr (.inr x8.2)) else none else some (.inl ((IntKind.i64.wrap (v6 - 1)))) else none else some (.inr (.inl (v1,v2,v3,v4,v5)))
theorem g99l1_b_eq (q0:List TV) (v1:List Str) (v2:List (Int×Str)) (v3:Int) (v4:Bool) (v5:Int) (v6:Int):X g99_S g99l1_cb (keepEnv [0,1,5] [(0,(.vp ((.vs (rows v1))::(.vs (rows v2))::(.int .i64 v3)::(.bool v4)::q0))),(1,(.int .i64 v5)),(5,(.int .i64 v6))]) []=(spec_l09Read_l1_b v1 v2 v3 v4 v5 v6).map (Sum.elim (fun s=>(TX.nrm,[(0,(.vp ((.vs (rows v1))::(.vs (rows v2))::(.int .i64 v3)::(.bool v4)::q0))),(1,(.int .i64 v5)),(5,(.int .i64 s))],[])) (Sum.elim (fun t=>(.ext 0,[(0,(.vp ((.vs (rows t.1))::(.vs (rows t.2.1))::(.int .i64 t.2.2.1)::(.bool t.2.2.2.1)::q0))),(1,(.int .i64 t.2.2.2.2))],[])) (fun t=>(.ret,[(4,(.str t))],[])))):=by
  simp (maxSteps:=2000000) (maxDischargeDepth:=8) -implicitDefEqProofs [g99l1_cb,spec_l09Read_l1_b] <;> (try simp only [map_to_bind,some_elim])
def spec_l09Read_l1 (v1:List Str) (v2:List (Int×Str)) (v3:Int) (v4:Bool) (v5:Int) (s:Int):Option ((List Str×(List (Int×Str))×Int×Bool×Int) ⊕ (Str)):=loopO (fun s=>spec_l09Read_l1_b v1 v2 v3 v4 v5 s) s
@[simp] theorem g99l1_eq (q0:List TV)(y0 y1 y2 y3 y4 y5):X g99_S g99l1_c [(0,(.vp ((.vs (rows y0))::(.vs (rows y1))::(.int .i64 y2)::(.bool y3)::q0))),(1,(.int .i64 y4)),(5,(.int .i64 y5))] []=(spec_l09Read_l1 y0 y1 y2 y3 y4 y5).map (Sum.elim (fun t=>(.ext 0,[(0,(.vp ((.vs (rows t.1))::(.vs (rows t.2.1))::(.int .i64 t.2.2.1)::(.bool t.2.2.2.1)::q0))),(1,(.int .i64 t.2.2.2.2))],[])) (fun t=>(.ret,[(4,(.str t))],[]))):=by
  exact loop_X _ _ _ _ (by intro r;first | (simp;done) | (rcases r with r | r <;> simp;done) | (rcases r with r | r | r <;> simp;done) | (rcases r with r | r | r | r <;> simp)) (fun s=>g99l1_b_eq q0 y0 y1 y2 y3 y4 s) y5
def spec_l09Read (a_d:K0) (a_k:Int):Option (Str):=(spec_l09Read_l1 a_d.1 a_d.2.1 a_d.2.2.1 a_d.2.2.2 a_k (((IntKind.i64.wrap ((a_d.2.1.length:Int) - 1))))).bind fun r9=>Sum.elim (fun u10=>if 0≤u10.2.2.2.2 then (u10.1[(u10.2.2.2.2).toNat]?).bind fun x12=>some x12 else none) (fun u11=>some u11) r9
@[simp] def g99_O:Str→TV×List Blk:=fun r=>((.str r),[])
def g99_E (a:K0×Int×List TV):List TV:=[(.vp ((.vs (rows a.1.1))::(.vs (rows a.1.2.1))::(.int .i64 a.1.2.2.1)::(.bool a.1.2.2.2)::a.2.2)),(.int .i64 a.2.1)]
theorem g99_run (a_d:K0) (a_k:Int) (q0:List TV):callFn (X g99_S) g99_tf (g99_E (a_d,a_k,q0)) []=(spec_l09Read a_d a_k).map g99_O:=by
  rw [callFn_eq]
  simp (maxSteps:=2000000) (maxDischargeDepth:=8) -implicitDefEqProofs [g99_tf,spec_l09Read,g99_E] <;> (try simp only [map_to_bind,some_elim,g99_O])
def g99_r:Rule:=RlO g99_E (fun a=>spec_l09Read a.1 a.2.1) g99_O
theorem g99_ok:RuleOk Tryz.prog 155 g99_r:=ok_rlo (S:=g99_S) (tf:=g99_tf) (SysOk.on trivial trivial) (trE_ok (ks:=[[0,1,5]]) Tryz.func155 (by kernel_rfl)) fun a=>g99_run a.1 a.2.1 a.2.2
@[simp] theorem g99_app (y0 y1 y2 y3 y4)(q0:List TV):g99_r [(.vp ((.vs (rows y0))::(.vs (rows y1))::(.int .i64 y2)::(.bool y3)::q0)),(.int .i64 y4)]=(spec_l09Read ((y0,y1,y2,y3)) y4).map g99_O :=
  RlO_app (enc:=g99_E) (by intro a b h;simp [g99_E,Prod.ext_iff] at h ⊢;simp [h]) ((y0,y1,y2,y3),y4,q0)
/-! spec.l00In -/
def g125_tf:TFn:=⟨(sq [mk 6 (kb false)] [0,1,2] (.seq (.after (.ops [mo 7 0,mo 8 1,bn 9 .geq (.t 7) (.t 8),mo 10 9,⟨(some 11),(some (10,true)),(.mv (.t 0))⟩,⟨(some 12),(some (10,true)),(.mv (.t 2))⟩,⟨(some 13),(some (10,true)),(.bin .num .leq (.t 11) (.t 12))⟩,pk 14 (.t 10) (.t 13) (kb false),mo 6 14]) (kp [(6,0)] [] 0)) (.keep (kp [(6,0)] [] 0) .ret))),[.t 6]⟩
abbrev g125_S:=Sys.on [] []
def spec_l00In (a_n:Int) (a_low:Int) (a_high:Int):Option (Bool):=if a_n ≥ a_low then some ((decide (a_n≤a_high))) else some false
@[simp] def g125_O:Bool→TV×List Blk:=fun r=>((.bool r),[])
def g125_E (a:Int×Int×Int):List TV:=[(.int .i64 a.1),(.int .i64 a.2.1),(.int .i64 a.2.2)]
theorem g125_run (a_n:Int) (a_low:Int) (a_high:Int) :callFn (X g125_S) g125_tf (g125_E (a_n,a_low,a_high)) []=(spec_l00In a_n a_low a_high).map g125_O:=by
  rw [callFn_eq]
  simp (maxSteps:=2000000) (maxDischargeDepth:=8) -implicitDefEqProofs [g125_tf,spec_l00In,g125_E] <;> (try simp only [map_to_bind,some_elim,g125_O])
def g125_r:Rule:=RlO g125_E (fun a=>spec_l00In a.1 a.2.1 a.2.2) g125_O
theorem g125_ok:RuleOk Tryz.prog 48 g125_r:=ok_rlo (S:=g125_S) (tf:=g125_tf) (SysOk.on trivial trivial) (trE_ok (ks:=[]) Tryz.func48 (by kernel_rfl)) fun a=>g125_run a.1 a.2.1 a.2.2
@[simp] theorem g125_app (y0 y1 y2):g125_r [(.int .i64 y0),(.int .i64 y1),(.int .i64 y2)]=(spec_l00In y0 y1 y2).map g125_O :=
  RlO_app (enc:=g125_E) (by intro a b h;simp [g125_E,Prod.ext_iff] at h ⊢;simp [h]) (y0,y1,y2)
/-! spec.l01Within -/
def g73_tf:TFn:=⟨(sq [mk 6 (kb false)] [0,1,2] (.seq (.after (.ops [mo 7 2,ca 8 48 [.t 7,ki 1,ki 8],mo 9 8,⟨(some 10),(some (9,true)),(.mv (.t 1))⟩,⟨(some 11),(some (9,true)),(.mv (.t 0))⟩,⟨(some 12),(some (9,true)),(.len true (.t 11))⟩,⟨(some 13),(some (9,true)),(.call 48 [.t 10,ki 0,.t 12])⟩,pk 14 (.t 9) (.t 13) (kb false),mo 15 14,⟨(some 16),(some (15,true)),(.mv (.t 2))⟩,⟨(some 17),(some (15,true)),(.mv (.t 0))⟩,⟨(some 18),(some (15,true)),(.len true (.t 17))⟩,⟨(some 19),(some (15,true)),(.mv (.t 1))⟩,⟨(some 20),(some (15,true)),(.bin .num .sub (.t 18) (.t 19))⟩,⟨(some 21),(some (15,true)),(.bin .num .leq (.t 16) (.t 20))⟩,pk 22 (.t 15) (.t 21) (kb false),mo 6 22]) (kp [(6,0)] [] 0)) (.keep (kp [(6,0)] [] 0) .ret))),[.t 6]⟩
abbrev g73_S:=Sys.on [(48,g125_r)] []
def spec_l01Within (a_s:Str) (a_at:Int) (a_size:Int):Option (Bool):=(spec_l00In a_size 1 8).bind fun r1=>if r1=true then (spec_l00In a_at 0 ((a_s.length:Int))).bind fun r2=>if r2=true then some ((decide (a_size≤(IntKind.i64.wrap ((a_s.length:Int) - a_at))))) else some false else some false
@[simp] def g73_O:Bool→TV×List Blk:=fun r=>((.bool r),[])
def g73_E (a:Str×Int×Int):List TV:=[(.str a.1),(.int .i64 a.2.1),(.int .i64 a.2.2)]
theorem g73_run (a_s:Str) (a_at:Int) (a_size:Int) :callFn (X g73_S) g73_tf (g73_E (a_s,a_at,a_size)) []=(spec_l01Within a_s a_at a_size).map g73_O:=by
  rw [callFn_eq]
  simp (maxSteps:=2000000) (maxDischargeDepth:=8) -implicitDefEqProofs [g73_tf,spec_l01Within,g73_E] <;> (try simp only [map_to_bind,some_elim,g73_O])
def g73_r:Rule:=RlO g73_E (fun a=>spec_l01Within a.1 a.2.1 a.2.2) g73_O
theorem g73_ok:RuleOk Tryz.prog 168 g73_r:=ok_rlo (S:=g73_S) (tf:=g73_tf) (SysOk.on ⟨g125_ok,trivial⟩ trivial) (trE_ok (ks:=[]) Tryz.func168 (by kernel_rfl)) fun a=>g73_run a.1 a.2.1 a.2.2
@[simp] theorem g73_app (y0 y1 y2):g73_r [(.str y0),(.int .i64 y1),(.int .i64 y2)]=(spec_l01Within y0 y1 y2).map g73_O :=
  RlO_app (enc:=g73_E) (by intro a b h;simp [g73_E,Prod.ext_iff] at h ⊢;simp [h]) (y0,y1,y2)
/-! spec.l01GetUint -/
def g59l2_cb:TC:=(.seq (sq [mo 28 9,bn 29 .geq (.t 28) (ki 0)] [0,1,8,9,29] (.cond (.t 29) .skip (.keep (kp [(8,0)] [] 0) (.exit 0)))) (.trim [0,1,8,9] (.seq (.block 1 (.ops [mo 32 8,bn 33 .mul (.t 32) (ki 256),mo 34 0,mo 35 1,mo 36 9,bn 37 .add (.t 35) (.t 36),oo 38 (.index (.t 34) (.t 37)),oo 39 (.conv (.toInt .i64) (.t 38)),bn 40 .add (.t 33) (.t 39),mo 8 40])) (.trim [0,1,8,9] (.after (.ops [mo 30 9,bn 31 .sub (.t 30) (ki 1),mo 9 31]) (kp [(0,0),(1,0),(8,0),(9,0)] [] 0))))))
def g59l2_c:TC:=.loop [0,1,8,9] g59l2_cb
def g59p1_c:TC:=(sq [mk 8 (ki 0)] [0,1,2,8] (.seq (sq [mo 26 2,bn 27 .sub (.t 26) (ki 1),mo 9 27] [0,1,8,9] (.block 0 (.keep (kp [(0,0),(1,0),(8,0),(9,0)] [] 0) g59l2_c))) (.trim [8] (.seq (.ops [mo 41 8,mo 6 41,mk 7 (kb true)]) (.keep (kp [(6,0),(7,0)] [] 0) .ret)))))
def g59_tf:TFn:=⟨(sq [mk 6 (ki 0),mk 7 (kb false)] [0,1,2] (.seq (sq [mo 10 0,mo 11 1,mo 12 2,ca 13 168 [.t 10,.t 11,.t 12],nt 14 13,mo 15 14,⟨(some 16),(some (15,false)),(.mv (.t 2))⟩,⟨(some 17),(some (15,false)),(.bin .num .eql (.t 16) (ki 8))⟩,⟨(some 18),(some (15,false)),(.mv (.t 17))⟩,⟨(some 19),(some (18,true)),(.mv (.t 0))⟩,⟨(some 20),(some (18,true)),(.mv (.t 1))⟩,⟨(some 21),(some (18,true)),(.bin .num .add (.t 20) (ki 7))⟩,⟨(some 22),(some (18,true)),(.index (.t 19) (.t 21))⟩,⟨(some 23),(some (18,true)),(.bin .num .gtr (.t 22) (.c (.int .u8 127)))⟩,⟨(some 24),(some (15,false)),(.pick (.t 18) (.t 23) (kb false))⟩,pk 25 (.t 15) (kb true) (.t 24)] [0,1,2,25] (.cond (.t 25) (.seq (.ops [mk 6 (ki 0),mk 7 (kb false)]) (.keep (kp [(6,0),(7,0)] [] 0) .ret)) (.keep (kp [(0,0),(1,0),(2,0)] [] 0) .skip))) (.trim [0,1,2] g59p1_c))),[.t 6,.t 7]⟩
abbrev g59_S:=Sys.on [(168,g73_r)] []
@[reducible,simp] def g59l2_F:Int→Out:=(fun t=>(.ext 0,[(8,(.int .i64 t))],[]))
def spec_l01GetUint_l2_b (v6:Str) (v7:Int) (v8:Int) (v9:Int):Option ((Int×Int) ⊕ (Int)):=if v9 ≥ 0 then if 0≤(IntKind.i64.wrap (v7+v9)) then (v6[((IntKind.i64.wrap (v7+v9))).toNat]?).bind fun (b10:UInt8)=>some (.inl ((IntKind.i64.wrap ((IntKind.i64.wrap (v8 * 256))+(IntKind.i64.wrap ((b10.toNat:Int))))),(IntKind.i64.wrap (v9 - 1)))) else none else some (.inr v8)
theorem g59l2_b_eq  (v6:Str) (v7:Int) (v8:Int) (v9:Int):X g59_S g59l2_cb (keepEnv [0,1,8,9] [(0,(.str v6)),(1,(.int .i64 v7)),(8,(.int .i64 v8)),(9,(.int .i64 v9))]) []=(spec_l01GetUint_l2_b v6 v7 v8 v9).map (Sum.elim (fun s=>(TX.nrm,[(0,(.str v6)),(1,(.int .i64 v7)),(8,(.int .i64 s.1)),(9,(.int .i64 s.2))],[])) g59l2_F):=by
  simp (maxSteps:=2000000) (maxDischargeDepth:=8) -implicitDefEqProofs [g59l2_cb,spec_l01GetUint_l2_b] <;> (try simp only [map_to_bind,some_elim,g59l2_F])
def spec_l01GetUint_l2 (v6:Str) (v7:Int) (s:Int×Int):Option (Int):=loopO (fun s=>spec_l01GetUint_l2_b v6 v7 s.1 s.2) s
@[simp] theorem g59l2_eq (y0 y1 y2 y3):X g59_S g59l2_c [(0,(.str y0)),(1,(.int .i64 y1)),(8,(.int .i64 y2)),(9,(.int .i64 y3))] []=(spec_l01GetUint_l2 y0 y1 (y2,y3)).map g59l2_F:=by
  exact loop_X _ _ _ _ (by intro r;first | (simp;done) | (rcases r with r | r <;> simp;done) | (rcases r with r | r | r <;> simp;done) | (rcases r with r | r | r | r <;> simp)) (fun s=>g59l2_b_eq  y0 y1 s.1 s.2) (y2,y3)
@[reducible,simp] def g59p1_F:(Int×Bool)→Out:=(fun t=>(.ret,[(6,(.int .i64 t.1)),(7,(.bool t.2))],[]))
def spec_l01GetUint_p1 (v3:Str) (v4:Int) (v5:Int):Option (Int×Bool):=(spec_l01GetUint_l2 v3 v4 ((0,(IntKind.i64.wrap (v5 - 1))))).bind fun r11=>some ((r11,true))
@[simp] theorem g59p1_eq (y0 y1 y2):X g59_S g59p1_c [(0,(.str y0)),(1,(.int .i64 y1)),(2,(.int .i64 y2))] []=(spec_l01GetUint_p1 y0 y1 y2).map g59p1_F:=by
  simp (maxSteps:=2000000) (maxDischargeDepth:=8) -implicitDefEqProofs [g59p1_c,spec_l01GetUint_p1] <;> (try simp only [map_to_bind,some_elim,g59p1_F])
def spec_l01GetUint (a_s:Str) (a_at:Int) (a_size:Int):Option (Int×Bool):=(spec_l01Within a_s a_at a_size).bind fun r1=>if ¬(r1=true) then some (0,false) else if a_size=8 then if 0≤(IntKind.i64.wrap (a_at+7)) then (a_s[((IntKind.i64.wrap (a_at+7))).toNat]?).bind fun (b2:UInt8)=>if (b2.toNat:Int) > 127 then some (0,false) else (spec_l01GetUint_p1 a_s a_at a_size).bind fun r12=>some (r12.1,r12.2) else none else (spec_l01GetUint_p1 a_s a_at a_size).bind fun r13=>some (r13.1,r13.2)
@[simp] def g59_O:(Int×Bool)→TV×List Blk:=fun r=>((.tup [(.int .i64 r.1),(.bool r.2)]),[])
def g59_E (a:Str×Int×Int):List TV:=[(.str a.1),(.int .i64 a.2.1),(.int .i64 a.2.2)]
theorem g59_run (a_s:Str) (a_at:Int) (a_size:Int) :callFn (X g59_S) g59_tf (g59_E (a_s,a_at,a_size)) []=(spec_l01GetUint a_s a_at a_size).map g59_O:=by
  rw [callFn_eq]
  simp (maxSteps:=2000000) (maxDischargeDepth:=8) -implicitDefEqProofs [g59_tf,spec_l01GetUint,g59_E] <;> (try simp only [map_to_bind,some_elim,g59_O])
def g59_r:Rule:=RlO g59_E (fun a=>spec_l01GetUint a.1 a.2.1 a.2.2) g59_O
theorem g59_ok:RuleOk Tryz.prog 164 g59_r:=ok_rlo (S:=g59_S) (tf:=g59_tf) (SysOk.on ⟨g73_ok,trivial⟩ trivial) (trE_ok (ks:=[[0,1,8,9]]) Tryz.func164 (by kernel_rfl)) fun a=>g59_run a.1 a.2.1 a.2.2
@[simp] theorem g59_app (y0 y1 y2):g59_r [(.str y0),(.int .i64 y1),(.int .i64 y2)]=(spec_l01GetUint y0 y1 y2).map g59_O :=
  RlO_app (enc:=g59_E) (by intro a b h;simp [g59_E,Prod.ext_iff] at h ⊢;simp [h]) (y0,y1,y2)
/-! spec.ValidSuper -/
def g60_tf:TFn:=⟨(sq [bx 1 0,mk 2 (kb false)] [1] (.seq (.after (.ops [fa 3 0 1,ld 4 3,ca 5 48 [.t 4,ki 16,ki 256],mo 6 5,⟨(some 7),(some (6,true)),(.faddr 1 (.t 1))⟩,⟨(some 8),(some (6,true)),(.load none (.t 7))⟩,⟨(some 9),(some (6,true)),(.call 48 [.t 8,ki 8,ki 64])⟩,pk 10 (.t 6) (.t 9) (kb false),mo 11 10,⟨(some 12),(some (11,true)),(.faddr 1 (.t 1))⟩,⟨(some 13),(some (11,true)),(.load none (.t 12))⟩,⟨(some 14),(some (11,true)),(.faddr 0 (.t 1))⟩,⟨(some 15),(some (11,true)),(.load none (.t 14))⟩,⟨(some 16),(some (11,true)),(.bin .num .sub (.t 15) (ki 4))⟩,⟨(some 17),(some (11,true)),(.bin .num .leq (.t 13) (.t 16))⟩,pk 18 (.t 11) (.t 17) (kb false),mo 19 18,⟨(some 20),(some (19,true)),(.faddr 2 (.t 1))⟩,⟨(some 21),(some (19,true)),(.load none (.t 20))⟩,⟨(some 22),(some (19,true)),(.call 48 [.t 21,ki 0,ki 1000000000000])⟩,pk 23 (.t 19) (.t 22) (kb false),mo 24 23,⟨(some 25),(some (24,true)),(.faddr 3 (.t 1))⟩,⟨(some 26),(some (24,true)),(.load none (.t 25))⟩,⟨(some 27),(some (24,true)),(.call 48 [.t 26,ki 0,ki 1000000000000])⟩,pk 28 (.t 24) (.t 27) (kb false),mo 2 28]) (kp [(2,0)] [] 0)) (.keep (kp [(2,0)] [] 0) .ret))),[.t 2]⟩
abbrev g60_S:=Sys.on [(48,g125_r)] []
def spec_ValidSuper (a_s:Int×Int×Int×Int):Option (Bool):=(spec_l00In a_s.1 16 256).bind fun r1=>if r1=true then (spec_l00In a_s.2.1 8 64).bind fun r2=>if r2=true then if a_s.2.1≤(IntKind.i64.wrap (a_s.1 - 4)) then (spec_l00In a_s.2.2.1 0 1000000000000).bind fun r3=>if r3=true then (spec_l00In a_s.2.2.2 0 1000000000000).bind fun r4=>some r4 else some false else some false else some false else some false
@[simp] def g60_O:Bool→TV×List Blk:=fun r=>((.bool r),[])
def g60_E (a:(Int×Int×Int×Int)):List TV:=[(.agg [(.int .i64 a.1),(.int .i64 a.2.1),(.int .i64 a.2.2.1),(.int .i64 a.2.2.2)])]
theorem g60_run (a_s:Int×Int×Int×Int) :callFn (X g60_S) g60_tf (g60_E a_s) []=(spec_ValidSuper a_s).map g60_O:=by
  rw [callFn_eq]
  simp (maxSteps:=2000000) (maxDischargeDepth:=8) -implicitDefEqProofs [g60_tf,spec_ValidSuper,g60_E] <;> (try simp only [map_to_bind,some_elim,g60_O])
def g60_r:Rule:=RlO g60_E (fun a=>spec_ValidSuper a) g60_O
theorem g60_ok:RuleOk Tryz.prog 47 g60_r:=ok_rlo (S:=g60_S) (tf:=g60_tf) (SysOk.on ⟨g125_ok,trivial⟩ trivial) (trE_ok (ks:=[]) Tryz.func47 (by kernel_rfl)) fun a=>g60_run a
@[simp] theorem g60_app (y0 y1 y2 y3):g60_r [(.agg [(.int .i64 y0),(.int .i64 y1),(.int .i64 y2),(.int .i64 y3)])]=(spec_ValidSuper ((y0,y1,y2,y3))).map g60_O :=
  RlO_app (enc:=g60_E) (by intro a b h;simp [g60_E,Prod.ext_iff] at h ⊢;simp [h]) ((y0,y1,y2,y3))
/-! spec.DecodeSuper -/
def g50p2_c:TC:=(sq [mo 39 6] [0,2,4,5,6,9,39] (.block 2 (sq [bn 43 .eql (.t 39) (ki 0),mo 42 43] [0,2,4,5,6,9,39,42] (.cond (.t 42) (.after (.ops [mo 44 9,fa 45 0 4,⟨none,none,(.store 1 (.t 45) (.t 44))⟩]) (kp [(0,0),(2,0),(4,0),(5,0),(6,0)] [(0,0),(1,0)] 0)) (sq [bn 47 .eql (.t 39) (ki 1),mo 46 47] [0,2,4,5,6,9,39,46] (.cond (.t 46) (.after (.ops [mo 48 9,fa 49 1 4,⟨none,none,(.store 1 (.t 49) (.t 48))⟩]) (kp [(0,0),(2,0),(4,0),(5,0),(6,0)] [(0,0),(1,0)] 0)) (sq [bn 51 .eql (.t 39) (ki 2),mo 50 51] [0,2,4,5,6,9,50] (.cond (.t 50) (.after (.ops [mo 52 9,fa 53 2 4,⟨none,none,(.store 1 (.t 53) (.t 52))⟩]) (kp [(0,0),(2,0),(4,0),(5,0),(6,0)] [(0,0),(1,0)] 0)) (.after (.ops [mo 40 9,fa 41 3 4,⟨none,none,(.store 1 (.t 41) (.t 40))⟩]) (kp [(0,0),(2,0),(4,0),(5,0),(6,0)] [(0,0),(1,0)] 0))))))))))
def g50l1_cb:TC:=(.seq (sq [mo 16 6,bn 17 .lss (.t 16) (ki 4)] [0,2,4,5,6,17] (.cond (.t 17) .skip (.keep (kp [(0,0),(2,0),(4,0),(5,0)] [(0,0),(1,0)] 0) (.exit 0)))) (.trim [0,2,4,5,6] (.seq (.block 1 (sq [oo 20 (.bslice [(.int .i64 0)] 4 [(0,(ki 5)),(1,(ki 7)),(2,(ki 9)),(3,(ki 17))]),mo 21 6,ia 22 1 20 21,ld 23 22,mo 7 23] [0,2,4,5,6,7] (sq [oo 24 (.bslice [(.int .i64 0)] 4 [(0,(ki 2)),(1,(ki 2)),(2,(ki 8)),(3,(ki 8))]),mo 25 6,ia 26 1 24 25,ld 27 26,mo 8 27] [0,2,4,5,6,7,8] (sq [mo 29 0,mo 30 7,mo 31 8,ca 32 164 [.t 29,.t 30,.t 31],mo 28 32,oo 33 (.ext (.t 28) 0),oo 34 (.ext (.t 28) 1),mo 9 33,mo 10 34] [0,2,4,5,6,9,10] (.seq (.after (.ops [mo 35 5,mo 36 35,⟨(some 37),(some (36,true)),(.mv (.t 10))⟩,pk 38 (.t 36) (.t 37) (kb false),mo 5 38]) (kp [(0,0),(2,0),(4,0),(5,0),(6,0),(9,0)] [(0,0),(1,0)] 0)) (.trim [0,2,4,5,6,9] g50p2_c)))))) (.trim [0,2,4,5,6] (.after (.ops [mo 18 6,bn 19 .add (.t 18) (ki 1),mo 6 19]) (kp [(0,0),(2,0),(4,0),(5,0),(6,0)] [(0,0),(1,0)] 0))))))
def g50l1_c:TC:=.loop [0,2,4,5,6] g50l1_cb
def g50_tf:TFn:=⟨(sq [oo 2 (.alloc [(.int .i64 0),(.int .i64 0),(.int .i64 0),(.int .i64 0)]),mk 3 (kb false)] [0,2] (.seq (sq [mo 11 0,oo 12 (.len true (.t 11)),bn 13 .neq (.t 12) (ki 64)] [0,2,13] (.cond (.t 13) (.seq (.ops [oo 14 (.build [(.int .i64 0),(.int .i64 0),(.int .i64 0),(.int .i64 0)] []),⟨none,none,(.store 4 (.t 2) (.t 14))⟩,mk 3 (kb false)]) (.keep (kp [(2,0),(3,0)] [(0,0)] 0) .ret)) .skip)) (.trim [0,2] (sq [oo 15 (.build [(.int .i64 0),(.int .i64 0),(.int .i64 0),(.int .i64 0)] []),oo 4 (.alloc [(.int .i64 0),(.int .i64 0),(.int .i64 0),(.int .i64 0)]),⟨none,none,(.store 4 (.t 4) (.t 15))⟩] [0,2,4] (sq [mk 5 (kb true)] [0,2,4,5] (.seq (sq [mk 6 (ki 0)] [0,2,4,5,6] (.block 0 (.keep (kp [(0,0),(2,0),(4,0),(5,0),(6,0)] [(0,0),(1,0)] 0) g50l1_c))) (.trim [0,2,4,5] (.seq (sq [mo 54 5,nt 55 54,mo 56 55,⟨(some 57),(some (56,false)),(.load (some 4) (.t 4))⟩,⟨(some 58),(some (56,false)),(.call 47 [.t 57])⟩,⟨(some 59),(some (56,false)),(.un .not (.t 58))⟩,pk 60 (.t 56) (kb true) (.t 59),mo 61 60,⟨(some 62),(some (61,false)),(.load (some 4) (.t 4))⟩,⟨(some 63),(some (61,false)),(.call 134 [.t 62])⟩,⟨(some 64),(some (61,false)),(.mv (.t 0))⟩,⟨(some 65),(some (61,false)),(.bin .str .neq (.t 63) (.t 64))⟩,pk 66 (.t 61) (kb true) (.t 65)] [2,4,66] (.cond (.t 66) (.seq (.ops [oo 67 (.build [(.int .i64 0),(.int .i64 0),(.int .i64 0),(.int .i64 0)] []),⟨none,none,(.store 4 (.t 2) (.t 67))⟩,mk 3 (kb false)]) (.keep (kp [(2,0),(3,0)] [(0,0)] 0) .ret)) .skip)) (.trim [2,4] (.seq (.ops [ln 68 4 4,⟨none,none,(.store 4 (.t 2) (.t 68))⟩,mk 3 (kb true)]) (.keep (kp [(2,0),(3,0)] [(0,0)] 0) .ret))))))))))),[.cell 2 (some 4),.t 3]⟩
abbrev g50_S:=Sys.on [(164,g59_r),(47,g60_r),(134,g71_r)] []
@[reducible,simp] def g50p2_F:(Str×(Int×Int×Int×Int)×(Int×Int×Int×Int)×Bool×Int)→Out:=(fun t=>(.nrm,[(0,(.str t.1)),(2,(.ptr 0 0 0)),(4,(.ptr 1 0 0)),(5,(.bool t.2.2.2.1)),(6,(.int .i64 t.2.2.2.2))],[(.live 4 [[(.int .i64 t.2.1.1),(.int .i64 t.2.1.2.1),(.int .i64 t.2.1.2.2.1),(.int .i64 t.2.1.2.2.2)]]),(.live 4 [[(.int .i64 t.2.2.1.1),(.int .i64 t.2.2.1.2.1),(.int .i64 t.2.2.1.2.2.1),(.int .i64 t.2.2.1.2.2.2)]])]))
def spec_DecodeSuper_p2 (v9:Str) (v10:Int×Int×Int×Int) (v11:Int×Int×Int×Int) (v12:Bool) (v13:Int) (v14:Int):Option (Str×(Int×Int×Int×Int)×(Int×Int×Int×Int)×Bool×Int):=if v13=0 then some ((v9,v10,(v14,v11.2.1,v11.2.2.1,v11.2.2.2),v12,v13)) else if v13=1 then some ((v9,v10,(v11.1,v14,v11.2.2.1,v11.2.2.2),v12,v13)) else if v13=2 then some ((v9,v10,(v11.1,v11.2.1,v14,v11.2.2.2),v12,v13)) else some ((v9,v10,(v11.1,v11.2.1,v11.2.2.1,v14),v12,v13))
@[simp] theorem g50p2_eq (y0 y1 y2 y3 y4 y5 y6 y7 y8 y9 y10 y11):X g50_S g50p2_c [(0,(.str y0)),(2,(.ptr 0 0 0)),(4,(.ptr 1 0 0)),(5,(.bool y9)),(6,(.int .i64 y10)),(9,(.int .i64 y11))] [(.live 4 [[(.int .i64 y1),(.int .i64 y2),(.int .i64 y3),(.int .i64 y4)]]),(.live 4 [[(.int .i64 y5),(.int .i64 y6),(.int .i64 y7),(.int .i64 y8)]])]=(spec_DecodeSuper_p2 y0 ((y1,y2,y3,y4)) ((y5,y6,y7,y8)) y9 y10 y11).map g50p2_F:=by
  simp (maxSteps:=2000000) (maxDischargeDepth:=8) -implicitDefEqProofs [g50p2_c,spec_DecodeSuper_p2,bslV_lit (α:=Int) (zs:=[(.int .i64 0)])] <;> (try simp only [map_to_bind,some_elim,g50p2_F])
@[reducible,simp] def g50l1_F:(Str×(Int×Int×Int×Int)×(Int×Int×Int×Int)×Bool)→Out:=(fun t=>(.ext 0,[(0,(.str t.1)),(2,(.ptr 0 0 0)),(4,(.ptr 1 0 0)),(5,(.bool t.2.2.2))],[(.live 4 [[(.int .i64 t.2.1.1),(.int .i64 t.2.1.2.1),(.int .i64 t.2.1.2.2.1),(.int .i64 t.2.1.2.2.2)]]),(.live 4 [[(.int .i64 t.2.2.1.1),(.int .i64 t.2.2.1.2.1),(.int .i64 t.2.2.1.2.2.1),(.int .i64 t.2.2.1.2.2.2)]])]))
def spec_DecodeSuper_l1_b (v1:Str) (v2:Int×Int×Int×Int) (v3:Int×Int×Int×Int) (v4:Bool) (v5:Int):Option ((Str×(Int×Int×Int×Int)×(Int×Int×Int×Int)×Bool×Int) ⊕ (Str×(Int×Int×Int×Int)×(Int×Int×Int×Int)×Bool)):=if v5 < 4 then if 0≤v5∧v5 < (((lit [5,7,9,17]:List Int).length:Nat):Int) then (((lit [5,7,9,17]:List Int))[(v5).toNat]?).bind fun x6=>if 0≤v5∧v5 < (((lit [2,2,8,8]:List Int).length:Nat):Int) then (((lit [2,2,8,8]:List Int))[(v5).toNat]?).bind fun x7=>(spec_l01GetUint v1 x6 x7).bind fun r8=>if v4=true then (spec_DecodeSuper_p2 v1 v2 v3 r8.2 v5 r8.1).bind fun r15=>some (.inl (r15.1,r15.2.1,r15.2.2.1,r15.2.2.2.1,(IntKind.i64.wrap (r15.2.2.2.2+1)))) else (spec_DecodeSuper_p2 v1 v2 v3 false v5 r8.1).bind fun r16=>some (.inl (r16.1,r16.2.1,r16.2.2.1,r16.2.2.2.1,(IntKind.i64.wrap (r16.2.2.2.2+1)))) else none else none else some (.inr (v1,v2,v3,v4))
theorem g50l1_b_eq  (v1:Str) (v2:Int×Int×Int×Int) (v3:Int×Int×Int×Int) (v4:Bool) (v5:Int):X g50_S g50l1_cb (keepEnv [0,2,4,5,6] [(0,(.str v1)),(2,(.ptr 0 0 0)),(4,(.ptr 1 0 0)),(5,(.bool v4)),(6,(.int .i64 v5))]) [(.live 4 [[(.int .i64 v2.1),(.int .i64 v2.2.1),(.int .i64 v2.2.2.1),(.int .i64 v2.2.2.2)]]),(.live 4 [[(.int .i64 v3.1),(.int .i64 v3.2.1),(.int .i64 v3.2.2.1),(.int .i64 v3.2.2.2)]])]=(spec_DecodeSuper_l1_b v1 v2 v3 v4 v5).map (Sum.elim (fun s=>(TX.nrm,[(0,(.str s.1)),(2,(.ptr 0 0 0)),(4,(.ptr 1 0 0)),(5,(.bool s.2.2.2.1)),(6,(.int .i64 s.2.2.2.2))],[(.live 4 [[(.int .i64 s.2.1.1),(.int .i64 s.2.1.2.1),(.int .i64 s.2.1.2.2.1),(.int .i64 s.2.1.2.2.2)]]),(.live 4 [[(.int .i64 s.2.2.1.1),(.int .i64 s.2.2.1.2.1),(.int .i64 s.2.2.1.2.2.1),(.int .i64 s.2.2.1.2.2.2)]])])) g50l1_F):=by
  simp (maxSteps:=2000000) (maxDischargeDepth:=8) -implicitDefEqProofs [g50l1_cb,spec_DecodeSuper_l1_b,bslV_lit (α:=Int) (zs:=[(.int .i64 0)])] <;> (try simp only [map_to_bind,some_elim,g50l1_F])
def spec_DecodeSuper_l1  (s:Str×(Int×Int×Int×Int)×(Int×Int×Int×Int)×Bool×Int):Option (Str×(Int×Int×Int×Int)×(Int×Int×Int×Int)×Bool):=loopO (fun s=>spec_DecodeSuper_l1_b  s.1 s.2.1 s.2.2.1 s.2.2.2.1 s.2.2.2.2) s
@[simp] theorem g50l1_eq (y0 y1 y2 y3 y4 y5 y6 y7 y8 y9 y10):X g50_S g50l1_c [(0,(.str y0)),(2,(.ptr 0 0 0)),(4,(.ptr 1 0 0)),(5,(.bool y9)),(6,(.int .i64 y10))] [(.live 4 [[(.int .i64 y1),(.int .i64 y2),(.int .i64 y3),(.int .i64 y4)]]),(.live 4 [[(.int .i64 y5),(.int .i64 y6),(.int .i64 y7),(.int .i64 y8)]])]=(spec_DecodeSuper_l1  (y0,(y1,y2,y3,y4),(y5,y6,y7,y8),y9,y10)).map g50l1_F:=by
  exact loop_X _ _ _ _ (by intro r;first | (simp;done) | (rcases r with r | r <;> simp;done) | (rcases r with r | r | r <;> simp;done) | (rcases r with r | r | r | r <;> simp)) (fun s=>g50l1_b_eq   s.1 s.2.1 s.2.2.1 s.2.2.2.1 s.2.2.2.2) (y0,(y1,y2,y3,y4),(y5,y6,y7,y8),y9,y10)
def spec_DecodeSuper (a_block:Str):Option ((Int×Int×Int×Int)×Bool):=if ¬((a_block.length:Int)=64) then some ((0,0,0,0),false) else (spec_DecodeSuper_l1 ((a_block,(0,0,0,0),(0,0,0,0),true,0))).bind fun r17=>if ¬(r17.2.2.2=true) then some ((0,0,0,0),false) else (spec_ValidSuper r17.2.2.1).bind fun r18=>if ¬(r18=true) then some ((0,0,0,0),false) else (spec_l10Encode r17.2.2.1).bind fun r19=>if ¬(r19=r17.1) then some ((0,0,0,0),false) else some (r17.2.2.1,true)
@[simp] def g50_O:((Int×Int×Int×Int)×Bool)→TV×List Blk:=fun r=>((.tup [(.agg [(.int .i64 r.1.1),(.int .i64 r.1.2.1),(.int .i64 r.1.2.2.1),(.int .i64 r.1.2.2.2)]),(.bool r.2)]),[(.live 4 [[(.int .i64 r.1.1),(.int .i64 r.1.2.1),(.int .i64 r.1.2.2.1),(.int .i64 r.1.2.2.2)]])])
def g50_E (a:Str):List TV:=[(.str a)]
theorem g50_run (a_block:Str) :callFn (X g50_S) g50_tf (g50_E a_block) []=(spec_DecodeSuper a_block).map g50_O:=by
  rw [callFn_eq]
  simp (maxSteps:=2000000) (maxDischargeDepth:=8) -implicitDefEqProofs [g50_tf,spec_DecodeSuper,g50_E,bslV_lit (α:=Int) (zs:=[(.int .i64 0)])] <;> (try simp only [map_to_bind,some_elim,g50_O])
def g50_r:Rule:=RlO g50_E (fun a=>spec_DecodeSuper a) g50_O
theorem g50_ok:RuleOk Tryz.prog 162 g50_r:=ok_rlo (S:=g50_S) (tf:=g50_tf) (SysOk.on ⟨g59_ok,g60_ok,g71_ok,trivial⟩ trivial) (trE_ok (ks:=[[0,2,4,5,6]]) Tryz.func162 (by kernel_rfl)) fun a=>g50_run a
@[simp] theorem g50_app (y0):g50_r [(.str y0)]=(spec_DecodeSuper y0).map g50_O :=
  RlO_app (enc:=g50_E) (by intro a b h;simp [g50_E,Prod.ext_iff] at h ⊢;simp [h]) y0
/-! spec.l10Slot -/
def g100_tf:TFn:=⟨(sq [oo 4 (.alloc [(.int .i64 0),(.int .i64 0),(.int .i64 0),(.int .i64 0)]),mk 5 (kb false)] [0,1,4] (sq [mo 9 0,mo 10 1,ca 11 155 [.t 9,.t 10],ca 12 162 [.t 11],mo 8 12,oo 13 (.ext (.t 8) 0),oo 14 (.ext (.t 8) 1),oo 6 (.alloc [(.int .i64 0),(.int .i64 0),(.int .i64 0),(.int .i64 0)]),⟨none,none,(.store 4 (.t 6) (.t 13))⟩,mo 7 14] [0,1,4,6,7] (.seq (.seq (.draw [([],mo 15 7),([0],nt 16 15),([0,1],mo 17 16),([0,1,2],⟨(some 18),(some (17,false)),(.faddr 0 (.t 6))⟩),([0,1,2,3],⟨(some 19),(some (17,false)),(.load none (.t 18))⟩),([0,1,2],⟨(some 20),(some (17,false)),(.mv (.t 0))⟩),([0,1,2,5],⟨(some 21),(some (17,false)),(.nilchk (.t 20))⟩),([0,1,2,5,6],⟨(some 22),(some (17,false)),(.faddr 0 (.t 21))⟩),([0,1,2,5,6,7],⟨(some 23),(some (17,false)),(.load none (.t 22))⟩),([0,1,2,5,6,7,8],⟨(some 24),(some (17,false)),(.len false (.t 23))⟩),([0,1,2,3,4,5,6,7,8,9],⟨(some 25),(some (17,false)),(.bin .num .neq (.t 19) (.t 24))⟩),([0,1,2,3,4,5,6,7,8,9,10],pk 26 (.t 17) (kb true) (.t 25)),([0,1,2,3,4,5,6,7,8,9,10,11],mo 27 26),([0,1,2,3,4,5,6,7,8,9,10,11,12],⟨(some 28),(some (27,false)),(.faddr 3 (.t 6))⟩),([0,1,2,3,4,5,6,7,8,9,10,11,12,13],⟨(some 29),(some (27,false)),(.load none (.t 28))⟩),([0,1,2,3,4,5,6,7,8,9,10,11,12,13,14],⟨(some 30),(some (27,false)),(.bin .num .rem (.t 29) (ki 2))⟩),([0,1,2,3,4,5,6,7,8,9,10,11,12],⟨(some 31),(some (27,false)),(.mv (.t 1))⟩)] [⟨(some 32),(some (27,false)),(.bin .num .neq (.t 30) (.t 31))⟩,pk 33 (.t 27) (kb true) (.t 32)]) (.trim [4,6,33] (.cond (.t 33) (.seq (.ops [oo 34 (.build [(.int .i64 0),(.int .i64 0),(.int .i64 0),(.int .i64 0)] []),⟨none,none,(.store 4 (.t 4) (.t 34))⟩,mk 5 (kb false)]) (.keep (kp [(4,0),(5,0)] [(0,0)] 0) .ret)) .skip))) (.trim [4,6] (.seq (.ops [ln 35 4 6,⟨none,none,(.store 4 (.t 4) (.t 35))⟩,mk 5 (kb true)]) (.keep (kp [(4,0),(5,0)] [(0,0)] 0) .ret)))))),[.cell 4 (some 4),.t 5]⟩
abbrev g100_S:=Sys.on [(155,g99_r),(162,g50_r)] []
def spec_l10Slot (a_d:K0) (a_k:Int):Option ((Int×Int×Int×Int)×Bool):=(spec_l09Read a_d a_k).bind fun r1=>(spec_DecodeSuper r1).bind fun r2=>if ¬(r2.2=true) then some ((0,0,0,0),false) else if ¬(r2.1.1=(a_d.1.length:Int)) then some ((0,0,0,0),false) else if ¬((Int.tmod r2.1.2.2.2 2)=a_k) then some ((0,0,0,0),false) else some (r2.1,true)
@[simp] def g100_O:((Int×Int×Int×Int)×Bool)→TV×List Blk:=fun r=>((.tup [(.agg [(.int .i64 r.1.1),(.int .i64 r.1.2.1),(.int .i64 r.1.2.2.1),(.int .i64 r.1.2.2.2)]),(.bool r.2)]),[(.live 4 [[(.int .i64 r.1.1),(.int .i64 r.1.2.1),(.int .i64 r.1.2.2.1),(.int .i64 r.1.2.2.2)]])])
def g100_E (a:K0×Int×List TV):List TV:=[(.vp ((.vs (rows a.1.1))::(.vs (rows a.1.2.1))::(.int .i64 a.1.2.2.1)::(.bool a.1.2.2.2)::a.2.2)),(.int .i64 a.2.1)]
theorem g100_run (a_d:K0) (a_k:Int) (q0:List TV):callFn (X g100_S) g100_tf (g100_E (a_d,a_k,q0)) []=(spec_l10Slot a_d a_k).map g100_O:=by
  rw [callFn_eq]
  simp (maxSteps:=2000000) (maxDischargeDepth:=8) -implicitDefEqProofs [g100_tf,spec_l10Slot,g100_E] <;> (try simp only [map_to_bind,some_elim,g100_O])
def g100_r:Rule:=RlO g100_E (fun a=>spec_l10Slot a.1 a.2.1) g100_O
theorem g100_ok:RuleOk Tryz.prog 148 g100_r:=ok_rlo (S:=g100_S) (tf:=g100_tf) (SysOk.on ⟨g99_ok,g50_ok,trivial⟩ trivial) (trE_ok (ks:=[[17]]) Tryz.func148 (by kernel_rfl)) fun a=>g100_run a.1 a.2.1 a.2.2
@[simp] theorem g100_app (y0 y1 y2 y3 y4)(q0:List TV):g100_r [(.vp ((.vs (rows y0))::(.vs (rows y1))::(.int .i64 y2)::(.bool y3)::q0)),(.int .i64 y4)]=(spec_l10Slot ((y0,y1,y2,y3)) y4).map g100_O :=
  RlO_app (enc:=g100_E) (by intro a b h;simp [g100_E,Prod.ext_iff] at h ⊢;simp [h]) ((y0,y1,y2,y3),y4,q0)
/-! spec.l10Choose -/
def g74p1_c:TC:=(sq [mo 33 7,mo 32 33] [2,6,32] (.cond (.t 32) (.seq (.ops [ln 34 4 6,⟨none,none,(.store 4 (.t 2) (.t 34))⟩,mk 3 (ki 0)]) (.keep (kp [(2,0),(3,0)] [(0,0)] 0) .ret)) (.keep (kp [(2,0)] [(0,0)] 0) .skip)))
def g74_tf:TFn:=⟨(sq [oo 2 (.alloc [(.int .i64 0),(.int .i64 0),(.int .i64 0),(.int .i64 0)]),mk 3 (ki 0)] [0,2] (sq [mo 9 0,ca 10 148 [.t 9,ki 0],mo 8 10,oo 11 (.ext (.t 8) 0),oo 12 (.ext (.t 8) 1),oo 4 (.alloc [(.int .i64 0),(.int .i64 0),(.int .i64 0),(.int .i64 0)]),⟨none,none,(.store 4 (.t 4) (.t 11))⟩,mo 5 12] [0,2,4,5] (sq [mo 14 0,ca 15 148 [.t 14,ki 1],mo 13 15,oo 16 (.ext (.t 13) 0),oo 17 (.ext (.t 13) 1),oo 6 (.alloc [(.int .i64 0),(.int .i64 0),(.int .i64 0),(.int .i64 0)]),⟨none,none,(.store 4 (.t 6) (.t 16))⟩,mo 7 17] [2,4,5,6,7] (.seq (.block 0 (sq [mo 19 5,mo 20 19,⟨(some 21),(some (20,true)),(.mv (.t 7))⟩,⟨(some 22),(some (20,true)),(.un .not (.t 21))⟩,⟨(some 23),(some (20,true)),(.mv (.t 22))⟩,⟨(some 24),(some (23,false)),(.faddr 3 (.t 4))⟩,⟨(some 25),(some (23,false)),(.load none (.t 24))⟩,⟨(some 26),(some (23,false)),(.faddr 3 (.t 6))⟩,⟨(some 27),(some (23,false)),(.load none (.t 26))⟩,⟨(some 28),(some (23,false)),(.bin .num .gtr (.t 25) (.t 27))⟩,⟨(some 29),(some (20,true)),(.pick (.t 23) (kb true) (.t 28))⟩,pk 30 (.t 20) (.t 29) (kb false),mo 18 30] [2,4,6,7,18] (.cond (.t 18) (.seq (.ops [ln 31 4 4,⟨none,none,(.store 4 (.t 2) (.t 31))⟩,mk 3 (ki 0)]) (.keep (kp [(2,0),(3,0)] [(0,0)] 0) .ret)) (.keep (kp [(2,0),(6,0),(7,0)] [(0,0),(4,0)] 0) g74p1_c)))) (.trim [2] (.seq (.ops [oo 35 (.build [(.int .i64 0),(.int .i64 0),(.int .i64 0),(.int .i64 0)] []),⟨none,none,(.store 4 (.t 2) (.t 35))⟩,mk 3 (ki 10)]) (.keep (kp [(2,0),(3,0)] [(0,0)] 0) .ret))))))),[.cell 2 (some 4),.t 3]⟩
abbrev g74_S:=Sys.on [(148,g100_r)] []
@[reducible,simp] def g74p1_F:(((Int×Int×Int×Int)×Int) ⊕ ((Int×Int×Int×Int)))→Out:=(Sum.elim (fun t=>(.ret,[(2,(.ptr 0 0 0)),(3,(.int .i64 t.2))],[(.live 4 [[(.int .i64 t.1.1),(.int .i64 t.1.2.1),(.int .i64 t.1.2.2.1),(.int .i64 t.1.2.2.2)]])])) (fun t=>(.nrm,[(2,(.ptr 0 0 0))],[(.live 4 [[(.int .i64 t.1),(.int .i64 t.2.1),(.int .i64 t.2.2.1),(.int .i64 t.2.2.2)]])])))
def spec_l10Choose_p1 (v3:Int×Int×Int×Int) (v4:Int×Int×Int×Int) (v5:Bool):Option (((Int×Int×Int×Int)×Int) ⊕ ((Int×Int×Int×Int))):=if v5=true then some ((.inl (v4,0))) else some ((.inr v3))
@[simp] theorem g74p1_eq (y0 y1 y2 y3 y4 y5 y6 y7 y8):X g74_S g74p1_c [(2,(.ptr 0 0 0)),(6,(.ptr 1 0 0)),(7,(.bool y8))] [(.live 4 [[(.int .i64 y0),(.int .i64 y1),(.int .i64 y2),(.int .i64 y3)]]),(.live 4 [[(.int .i64 y4),(.int .i64 y5),(.int .i64 y6),(.int .i64 y7)]])]=(spec_l10Choose_p1 ((y0,y1,y2,y3)) ((y4,y5,y6,y7)) y8).map g74p1_F:=by
  simp (maxSteps:=2000000) (maxDischargeDepth:=8) -implicitDefEqProofs [g74p1_c,spec_l10Choose_p1] <;> (try simp only [map_to_bind,some_elim,g74p1_F])
def spec_l10Choose (a_d:K0):Option ((Int×Int×Int×Int)×Int):=(spec_l10Slot a_d 0).bind fun r1=>(spec_l10Slot a_d 1).bind fun r2=>if r1.2=true then if ¬(r2.2=true) then some (r1.1,0) else if r1.1.2.2.2 > r2.1.2.2.2 then some (r1.1,0) else (spec_l10Choose_p1 ((0,0,0,0)) r2.1 r2.2).bind fun r6=>Sum.elim (fun u7=>some (u7.1,u7.2)) (fun u8=>some ((0,0,0,0),10)) r6 else (spec_l10Choose_p1 ((0,0,0,0)) r2.1 r2.2).bind fun r9=>Sum.elim (fun u10=>some (u10.1,u10.2)) (fun u11=>some ((0,0,0,0),10)) r9
@[simp] def g74_O:((Int×Int×Int×Int)×Int)→TV×List Blk:=fun r=>((.tup [(.agg [(.int .i64 r.1.1),(.int .i64 r.1.2.1),(.int .i64 r.1.2.2.1),(.int .i64 r.1.2.2.2)]),(.int .i64 r.2)]),[(.live 4 [[(.int .i64 r.1.1),(.int .i64 r.1.2.1),(.int .i64 r.1.2.2.1),(.int .i64 r.1.2.2.2)]])])
def g74_E (a:K0×List TV):List TV:=[(.vp ((.vs (rows a.1.1))::(.vs (rows a.1.2.1))::(.int .i64 a.1.2.2.1)::(.bool a.1.2.2.2)::a.2))]
theorem g74_run (a_d:K0) (q0:List TV):callFn (X g74_S) g74_tf (g74_E (a_d,q0)) []=(spec_l10Choose a_d).map g74_O:=by
  rw [callFn_eq]
  simp (maxSteps:=2000000) (maxDischargeDepth:=8) -implicitDefEqProofs [g74_tf,spec_l10Choose,g74_E] <;> (try simp only [map_to_bind,some_elim,g74_O])
def g74_r:Rule:=RlO g74_E (fun a=>spec_l10Choose a.1) g74_O
theorem g74_ok:RuleOk Tryz.prog 128 g74_r:=ok_rlo (S:=g74_S) (tf:=g74_tf) (SysOk.on ⟨g100_ok,trivial⟩ trivial) (trE_ok (ks:=[]) Tryz.func128 (by kernel_rfl)) fun a=>g74_run a.1 a.2
@[simp] theorem g74_app (y0 y1 y2 y3)(q0:List TV):g74_r [(.vp ((.vs (rows y0))::(.vs (rows y1))::(.int .i64 y2)::(.bool y3)::q0))]=(spec_l10Choose ((y0,y1,y2,y3))).map g74_O :=
  RlO_app (enc:=g74_E) (by intro a b h;simp [g74_E,Prod.ext_iff] at h ⊢;simp [h]) ((y0,y1,y2,y3),q0)
/-! spec.l11Log -/
def g118l1_cb:TC:=(.seq (sq [mo 8 6,fa 9 1 3,ld 10 9,bn 11 .lss (.t 8) (.t 10)] [0,3,5,6,11] (.cond (.t 11) .skip (.keep (kp [(5,1)] [(1,1)] 0) (.exit 0)))) (.trim [0,3,5,6] (.seq (.block 1 (.ops [mo 14 5,mo 15 0,mo 16 6,bn 17 .add (ki 2) (.t 16),ca 18 155 [.t 15,.t 17],oo 19 (.bslice [(.str [])] 1 [(0,(.t 18))]),oo 20 (.append 9 1 16 (.t 14) (.t 19)),mo 5 20])) (.trim [0,3,5,6] (.after (.ops [mo 12 6,bn 13 .add (.t 12) (ki 1),mo 6 13]) (kp [(0,0),(3,0),(5,1),(6,0)] [(0,0),(3,1)] 0))))))
def g118l1_c:TC:=.loop [0,3,5,6] g118l1_cb
def g118_tf:TFn:=⟨(sq [bx 3 1,mk 4 (.c .nils)] [0,3] (sq [oo 7 (.bslice [(.str [])] 0 []),mo 5 7] [0,3,5] (.seq (sq [mk 6 (ki 0)] [0,3,5,6] (.block 0 (.keep (kp [(0,0),(3,0),(5,1),(6,0)] [(0,0),(1000,1)] 0) g118l1_c))) (.trim [5] (.seq (.ops [mo 21 5,mo 4 21,⟨(some 4),none,(.frz [0] (.t 4))⟩]) (.keep (kp [(4,0)] [] 0) .ret)))))),[.t 4]⟩
abbrev g118_S:=Sys.on [(155,g99_r)] []
@[reducible,simp] def g118l1_F:(List Str)→Out:=(fun t=>(.ext 0,[(5,(ow 0 t.length))],[(ob 1 t)]))
def spec_l11Log_l1_b (v1:K0) (v2:Int×Int×Int×Int) (v3:List Str) (v4:Int):Option ((List Str×Int) ⊕ (List Str)):=if v4 < v2.2.1 then (spec_l09Read v1 ((IntKind.i64.wrap (2+v4)))).bind fun r5=>(appL 16 v3 ((lit [r5]:List Str))).bind fun l6=>some (.inl (l6,(IntKind.i64.wrap (v4+1)))) else some (.inr v3)
theorem g118l1_b_eq (q0:List TV) (v1:K0) (v2:Int×Int×Int×Int) (v3:List Str) (v4:Int):X g118_S g118l1_cb (keepEnv [0,3,5,6] [(0,(.vp ((.vs (rows v1.1))::(.vs (rows v1.2.1))::(.int .i64 v1.2.2.1)::(.bool v1.2.2.2)::q0))),(3,(.ptr 0 0 0)),(5,(ow 1 v3.length)),(6,(.int .i64 v4))]) [(.live 4 [[(.int .i64 v2.1),(.int .i64 v2.2.1),(.int .i64 v2.2.2.1),(.int .i64 v2.2.2.2)]]),(ob 1 v3)]=(spec_l11Log_l1_b v1 v2 v3 v4).map (Sum.elim (fun s=>(TX.nrm,[(0,(.vp ((.vs (rows v1.1))::(.vs (rows v1.2.1))::(.int .i64 v1.2.2.1)::(.bool v1.2.2.2)::q0))),(3,(.ptr 0 0 0)),(5,(ow 1 s.1.length)),(6,(.int .i64 s.2))],[(.live 4 [[(.int .i64 v2.1),(.int .i64 v2.2.1),(.int .i64 v2.2.2.1),(.int .i64 v2.2.2.2)]]),(ob 1 s.1)])) g118l1_F):=by
  simp (maxSteps:=2000000) (maxDischargeDepth:=8) -implicitDefEqProofs [g118l1_cb,spec_l11Log_l1_b,bslV_lit (α:=Str) (zs:=[(.str [])])] <;> (try simp only [map_to_bind,some_elim,g118l1_F])
def spec_l11Log_l1 (v1:K0) (v2:Int×Int×Int×Int) (s:List Str×Int):Option (List Str):=loopO (fun s=>spec_l11Log_l1_b v1 v2 s.1 s.2) s
@[simp] theorem g118l1_eq (q0:List TV)(y0 y1 y2 y3 y4 y5 y6 y7)(y8:List Str)(y9){n1:Nat}(h1:n1=y8.length):X g118_S g118l1_c [(0,(.vp ((.vs (rows y0))::(.vs (rows y1))::(.int .i64 y2)::(.bool y3)::q0))),(3,(.ptr 0 0 0)),(5,(ow 1 n1)),(6,(.int .i64 y9))] [(.live 4 [[(.int .i64 y4),(.int .i64 y5),(.int .i64 y6),(.int .i64 y7)]]),(ob 1 y8)]=(spec_l11Log_l1 ((y0,y1,y2,y3)) ((y4,y5,y6,y7)) (y8,y9)).map g118l1_F:=by
  subst h1
  exact loop_X _ _ _ _ (by intro r;first | (simp;done) | (rcases r with r | r <;> simp;done) | (rcases r with r | r | r <;> simp;done) | (rcases r with r | r | r | r <;> simp)) (fun s=>g118l1_b_eq q0 ((y0,y1,y2,y3)) ((y4,y5,y6,y7)) s.1 s.2) (y8,y9)
@[simp] theorem g118l1_eq_2 (q0:List TV)(y0 y1 y2 y3 y4 y5 y6 y7 y8):X g118_S g118l1_c [(0,(.vp ((.vs (rows y0))::(.vs (rows y1))::(.int .i64 y2)::(.bool y3)::q0))),(3,(.ptr 0 0 0)),(5,.es),(6,(.int .i64 y8))] [(.live 4 [[(.int .i64 y4),(.int .i64 y5),(.int .i64 y6),(.int .i64 y7)]]),.dead]=(spec_l11Log_l1 ((y0,y1,y2,y3)) ((y4,y5,y6,y7)) (([]:List Str),y8)).map g118l1_F :=
  g118l1_eq q0 y0 y1 y2 y3 y4 y5 y6 y7 ([]:List Str) y8 rfl
def spec_l11Log (a_d:K0) (a_s:Int×Int×Int×Int):Option (List Str):=(spec_l11Log_l1 a_d a_s ((([]:List Str),0))).bind fun r7=>some r7
@[simp] def g118_O:List Str→TV×List Blk:=fun r=>((.vs (rows r)),[])
def g118_E (a:K0×(Int×Int×Int×Int)×List TV):List TV:=[(.vp ((.vs (rows a.1.1))::(.vs (rows a.1.2.1))::(.int .i64 a.1.2.2.1)::(.bool a.1.2.2.2)::a.2.2)),(.agg [(.int .i64 a.2.1.1),(.int .i64 a.2.1.2.1),(.int .i64 a.2.1.2.2.1),(.int .i64 a.2.1.2.2.2)])]
theorem g118_run (a_d:K0) (a_s:Int×Int×Int×Int) (q0:List TV):callFn (X g118_S) g118_tf (g118_E (a_d,a_s,q0)) []=(spec_l11Log a_d a_s).map g118_O:=by
  rw [callFn_eq]
  simp (maxSteps:=2000000) (maxDischargeDepth:=8) -implicitDefEqProofs [g118_tf,spec_l11Log,g118_E,bslV_lit (α:=Str) (zs:=[(.str [])])] <;> (try simp only [map_to_bind,some_elim,g118_O])
def g118_r:Rule:=RlO g118_E (fun a=>spec_l11Log a.1 a.2.1) g118_O
theorem g118_ok:RuleOk Tryz.prog 149 g118_r:=ok_rlo (S:=g118_S) (tf:=g118_tf) (SysOk.on ⟨g99_ok,trivial⟩ trivial) (trE_ok (ks:=[[0,3,5,6]]) Tryz.func149 (by kernel_rfl)) fun a=>g118_run a.1 a.2.1 a.2.2
@[simp] theorem g118_app (y0 y1 y2 y3 y4 y5 y6 y7)(q0:List TV):g118_r [(.vp ((.vs (rows y0))::(.vs (rows y1))::(.int .i64 y2)::(.bool y3)::q0)),(.agg [(.int .i64 y4),(.int .i64 y5),(.int .i64 y6),(.int .i64 y7)])]=(spec_l11Log ((y0,y1,y2,y3)) ((y4,y5,y6,y7))).map g118_O :=
  RlO_app (enc:=g118_E) (by intro a b h;simp [g118_E,Prod.ext_iff] at h ⊢;simp [h]) ((y0,y1,y2,y3),(y4,y5,y6,y7),q0)
/-! spec.l11Number -/
def g75_tf:TFn:=⟨(sq [mk 2 (ki 0),mk 3 (ki 0),mk 4 (kb false)] [0] (.seq (sq [mo 10 0,oo 11 (.len true (.t 10)),bn 12 .neq (.t 11) (ki 64),mo 13 12,⟨(some 14),(some (13,false)),(.mv (.t 0))⟩,⟨(some 15),(some (13,false)),(.sliceS (.t 14) none (some (ki 4)))⟩,⟨(some 16),(some (13,false)),(.bin .str .neq (.t 15) (.c (.str [76,79,71,82])))⟩,pk 17 (.t 13) (kb true) (.t 16),mo 18 17,⟨(some 19),(some (18,false)),(.mv (.t 0))⟩,⟨(some 20),(some (18,false)),(.index (.t 19) (ki 63))⟩,⟨(some 21),(some (18,false)),(.bin .num .neq (.t 20) (.c (.int .u8 90)))⟩,pk 22 (.t 18) (kb true) (.t 21)] [22] (.cond (.t 22) (.seq (.ops [mk 2 (ki 0),mk 3 (ki 0),mk 4 (kb false)]) (.keep (kp [(2,0),(3,0),(4,0)] [] 0) .ret)) .skip)) (.trim [] .bad))),[.t 2,.t 3,.t 4]⟩
abbrev g75_S:=Sys.on [] []
def spec_l11Number (a_head:Str):Option (Int×Int×Bool):=if ¬((a_head.length:Int)=64) then some (0,0,false) else (subL a_head none (some 4)).bind fun s1=>if ¬(s1=([76,79,71,82]:Str)) then some (0,0,false) else if 0≤(63:Int) then (a_head[((63:Int)).toNat]?).bind fun (b2:UInt8)=>if ¬((b2.toNat:Int)=90) then some (0,0,false) else none else none
@[simp] def g75_O:(Int×Int×Bool)→TV×List Blk:=fun r=>((.tup [(.int .i64 r.1),(.int .i64 r.2.1),(.bool r.2.2)]),[])
def g75_E (a:Str):List TV:=[(.str a)]
theorem g75_run (a_head:Str) :callFn (X g75_S) g75_tf (g75_E a_head) []=(spec_l11Number a_head).map g75_O:=by
  rw [callFn_eq]
  simp (maxSteps:=2000000) (maxDischargeDepth:=8) -implicitDefEqProofs [g75_tf,spec_l11Number,g75_E] <;> (try simp only [map_to_bind,some_elim,g75_O])
def g75_r:Rule:=RlO g75_E (fun a=>spec_l11Number a) g75_O
theorem g75_ok:RuleOk Tryz.prog 163 g75_r:=ok_rlo (S:=g75_S) (tf:=g75_tf) (SysOk.on trivial trivial) (trE_ok (ks:=[[2000002,3]]) Tryz.func163 (by kernel_rfl)) fun a=>g75_run a
@[simp] theorem g75_app (y0):g75_r [(.str y0)]=(spec_l11Number y0).map g75_O :=
  RlO_app (enc:=g75_E) (by intro a b h;simp [g75_E,Prod.ext_iff] at h ⊢;simp [h]) y0
/-! spec.l11Table -/
def g87_tf:TFn:=⟨(sq [mk 2 (ki 0)] [0] (.seq (.ops [mo 3 0,bn 4 .mul (ki 2) (.t 3),bn 5 .add (.t 4) (ki 64),bn 6 .sub (.t 5) (ki 1),bn 7 .quo (.t 6) (ki 64),mo 2 7]) (.keep (kp [(2,0)] [] 0) .ret))),[.t 2]⟩
abbrev g87_S:=Sys.on [] []
def spec_l11Table (a_pages:Int):Option (Int):=some ((IntKind.i64.wrap (Int.tdiv ((IntKind.i64.wrap ((IntKind.i64.wrap ((IntKind.i64.wrap (2 * a_pages))+64)) - 1))) 64)))
@[simp] def g87_O:Int→TV×List Blk:=fun r=>((.int .i64 r),[])
def g87_E (a:Int):List TV:=[(.int .i64 a)]
theorem g87_run (a_pages:Int) :callFn (X g87_S) g87_tf (g87_E a_pages) []=(spec_l11Table a_pages).map g87_O:=by
  rw [callFn_eq]
  simp (maxSteps:=2000000) (maxDischargeDepth:=8) -implicitDefEqProofs [g87_tf,spec_l11Table,g87_E] <;> (try simp only [map_to_bind,some_elim,g87_O])
def g87_r:Rule:=RlO g87_E (fun a=>spec_l11Table a) g87_O
theorem g87_ok:RuleOk Tryz.prog 107 g87_r:=ok_rlo (S:=g87_S) (tf:=g87_tf) (SysOk.on trivial trivial) (trE_ok (ks:=[]) Tryz.func107 (by kernel_rfl)) fun a=>g87_run a
@[simp] theorem g87_app (y0):g87_r [(.int .i64 y0)]=(spec_l11Table y0).map g87_O :=
  RlO_app (enc:=g87_E) (by intro a b h;simp [g87_E,Prod.ext_iff] at h ⊢;simp [h]) y0
/-! spec.l11Blocks -/
def g76_tf:TFn:=⟨(sq [mk 2 (ki 0)] [0] (.seq (.ops [mo 3 0,ca 4 107 [.t 3],bn 5 .add (ki 1) (.t 4),mo 6 0,bn 7 .add (.t 5) (.t 6),mo 2 7]) (.keep (kp [(2,0)] [] 0) .ret))),[.t 2]⟩
abbrev g76_S:=Sys.on [(107,g87_r)] []
def spec_l11Blocks (a_pages:Int):Option (Int):=(spec_l11Table a_pages).bind fun r1=>some ((IntKind.i64.wrap ((IntKind.i64.wrap (1+r1))+a_pages)))
@[simp] def g76_O:Int→TV×List Blk:=fun r=>((.int .i64 r),[])
def g76_E (a:Int):List TV:=[(.int .i64 a)]
theorem g76_run (a_pages:Int) :callFn (X g76_S) g76_tf (g76_E a_pages) []=(spec_l11Blocks a_pages).map g76_O:=by
  rw [callFn_eq]
  simp (maxSteps:=2000000) (maxDischargeDepth:=8) -implicitDefEqProofs [g76_tf,spec_l11Blocks,g76_E] <;> (try simp only [map_to_bind,some_elim,g76_O])
def g76_r:Rule:=RlO g76_E (fun a=>spec_l11Blocks a) g76_O
theorem g76_ok:RuleOk Tryz.prog 77 g76_r:=ok_rlo (S:=g76_S) (tf:=g76_tf) (SysOk.on ⟨g87_ok,trivial⟩ trivial) (trE_ok (ks:=[]) Tryz.func77 (by kernel_rfl)) fun a=>g76_run a
@[simp] theorem g76_app (y0):g76_r [(.int .i64 y0)]=(spec_l11Blocks y0).map g76_O :=
  RlO_app (enc:=g76_E) (by intro a b h;simp [g76_E,Prod.ext_iff] at h ⊢;simp [h]) y0
/-! spec.l11Decode -/
def g77_tf:TFn:=⟨(sq [oo 2 (.alloc [(.int .i64 0),.nils]),mk 3 (ki 0)] [0,2] (.seq (sq [mo 15 0,le 16 15,bn 17 .eql (.t 16) (ki 0)] [0,2,17] (.cond (.t 17) (.seq (.ops [oo 18 (.build [(.int .i64 0),.nils] []),⟨none,none,(.store 2 (.t 2) (.t 18))⟩,mk 3 (ki 10)]) (.keep (kp [(2,0),(3,0)] [(0,2)] 0) .ret)) .skip)) (.trim [0,2] (sq [mo 20 0,oo 21 (.iaddr 1 (.t 20) (ki 0)),ld 22 21,ca 23 163 [.t 22],mo 19 23,oo 24 (.ext (.t 19) 0),oo 25 (.ext (.t 19) 1),oo 26 (.ext (.t 19) 2),mo 4 24,mo 5 25,mo 6 26] [0,2,5,6] (.seq (sq [mo 27 6,nt 28 27,mo 29 28,⟨(some 30),(some (29,false)),(.mv (.t 0))⟩,⟨(some 31),(some (29,false)),(.len false (.t 30))⟩,⟨(some 32),(some (29,false)),(.mv (.t 5))⟩,⟨(some 33),(some (29,false)),(.call 77 [.t 32])⟩,⟨(some 34),(some (29,false)),(.bin .num .lss (.t 31) (.t 33))⟩,pk 35 (.t 29) (kb true) (.t 34)] [2,35] (.cond (.t 35) (.seq (.ops [oo 36 (.build [(.int .i64 0),.nils] []),⟨none,none,(.store 2 (.t 2) (.t 36))⟩,mk 3 (ki 10)]) (.keep (kp [(2,0),(3,0)] [(0,2)] 0) .ret)) .skip)) (.trim [] .bad)))))),[.cell 2 (some 2),.t 3]⟩
abbrev g77_S:=Sys.on [(163,g75_r),(77,g76_r)] []
def spec_l11Decode (a_blocks:List Str):Option (Int×Int):=if (a_blocks.length:Int)=0 then some (0,10) else if 0≤(0:Int) then (a_blocks[((0:Int)).toNat]?).bind fun x1=>(spec_l11Number x1).bind fun r2=>if ¬(r2.2.2=true) then some (0,10) else (spec_l11Blocks r2.2.1).bind fun r3=>if (a_blocks.length:Int) < r3 then some (0,10) else none else none
@[simp] def g77_O:(Int×Int)→TV×List Blk:=fun r=>((.tup [(.agg [(.int .i64 r.1),.es]),(.int .i64 r.2)]),[(.live 2 [[(.int .i64 r.1),.es]])])
def g77_E (a:List Str):List TV:=[(.vs (rows a))]
theorem g77_run (a_blocks:List Str) :callFn (X g77_S) g77_tf (g77_E a_blocks) []=(spec_l11Decode a_blocks).map g77_O:=by
  rw [callFn_eq]
  simp (maxSteps:=2000000) (maxDischargeDepth:=8) -implicitDefEqProofs [g77_tf,spec_l11Decode,g77_E] <;> (try simp only [map_to_bind,some_elim,g77_O])
def g77_r:Rule:=RlO g77_E (fun a=>spec_l11Decode a) g77_O
theorem g77_ok:RuleOk Tryz.prog 150 g77_r:=ok_rlo (S:=g77_S) (tf:=g77_tf) (SysOk.on ⟨g75_ok,g76_ok,trivial⟩ trivial) (trE_ok (ks:=[[2000002,7]]) Tryz.func150 (by kernel_rfl)) fun a=>g77_run a
@[simp] theorem g77_app (y0):g77_r [(.vs (rows y0))]=(spec_l11Decode y0).map g77_O :=
  RlO_app (enc:=g77_E) (by intro a b h;simp [g77_E,Prod.ext_iff] at h ⊢;simp [h]) y0
/-! spec.l10Area -/
def g101_tf:TFn:=⟨(sq [bx 1 0,mk 2 (ki 0)] [1] (.seq (.ops [fa 3 1 1,ld 4 3,bn 5 .add (ki 2) (.t 4),mo 2 5]) (.keep (kp [(2,0)] [] 0) .ret))),[.t 2]⟩
abbrev g101_S:=Sys.on [] []
def spec_l10Area (a_s:Int×Int×Int×Int):Option (Int):=some ((IntKind.i64.wrap (2+a_s.2.1)))
@[simp] def g101_O:Int→TV×List Blk:=fun r=>((.int .i64 r),[])
def g101_E (a:(Int×Int×Int×Int)):List TV:=[(.agg [(.int .i64 a.1),(.int .i64 a.2.1),(.int .i64 a.2.2.1),(.int .i64 a.2.2.2)])]
theorem g101_run (a_s:Int×Int×Int×Int) :callFn (X g101_S) g101_tf (g101_E a_s) []=(spec_l10Area a_s).map g101_O:=by
  rw [callFn_eq]
  simp (maxSteps:=2000000) (maxDischargeDepth:=8) -implicitDefEqProofs [g101_tf,spec_l10Area,g101_E] <;> (try simp only [map_to_bind,some_elim,g101_O])
def g101_r:Rule:=RlO g101_E (fun a=>spec_l10Area a) g101_O
theorem g101_ok:RuleOk Tryz.prog 64 g101_r:=ok_rlo (S:=g101_S) (tf:=g101_tf) (SysOk.on trivial trivial) (trE_ok (ks:=[]) Tryz.func64 (by kernel_rfl)) fun a=>g101_run a
@[simp] theorem g101_app (y0 y1 y2 y3):g101_r [(.agg [(.int .i64 y0),(.int .i64 y1),(.int .i64 y2),(.int .i64 y3)])]=(spec_l10Area ((y0,y1,y2,y3))).map g101_O :=
  RlO_app (enc:=g101_E) (by intro a b h;simp [g101_E,Prod.ext_iff] at h ⊢;simp [h]) ((y0,y1,y2,y3))
/-! spec.l11Within -/
def g78l1_cb:TC:=(.seq (sq [mo 6 5,mo 7 1,le 8 7,bn 9 .lss (.t 6) (.t 8)] [1,2,5,9] (.cond (.t 9) .skip (.keep (kp [] [] 0) (.exit 0)))) (.trim [1,2,5] (.seq (.block 1 (.seq (.draw [([],mo 12 1),([],mo 13 5),([0,1],ia 14 2 12 13),([0,1,2],fa 15 0 14),([0,1,2,3],ld 16 15),([],ln 17 4 2),([5],ca 18 64 [.t 17]),([],fa 19 0 2),([7],ld 20 19),([7,8],bn 21 .sub (.t 20) (ki 1))] [ca 22 48 [.t 16,.t 18,.t 21],nt 23 22]) (.trim [1,2,5,23] (.cond (.t 23) (.seq (.ops [mk 4 (kb false)]) (.keep (kp [(4,0)] [] 0) .ret)) .skip)))) (.trim [1,2,5] (.after (.ops [mo 10 5,bn 11 .add (.t 10) (ki 1),mo 5 11]) (kp [(1,0),(2,0),(5,0)] [(0,0)] 0))))))
def g78l1_c:TC:=.loop [1,2,5] g78l1_cb
def g78_tf:TFn:=⟨(sq [bx 2 0,mk 4 (kb false)] [1,2] (.seq (sq [mk 5 (ki 0)] [1,2,5] (.block 0 (.keep (kp [(1,0),(2,0),(5,0)] [(0,0)] 0) g78l1_c))) (.trim [] (.seq (.ops [mk 4 (kb true)]) (.keep (kp [(4,0)] [] 0) .ret))))),[.t 4]⟩
abbrev g78_S:=Sys.on [(64,g101_r),(48,g125_r)] []
@[reducible,simp] def g78l1_F:((Unit) ⊕ (Bool))→Out:=(Sum.elim (fun t=>(.ext 0,[],[])) (fun t=>(.ret,[(4,(.bool t))],[])))
def spec_l11Within_l1_b (v1:List (Int×Str)) (v2:Int×Int×Int×Int) (v3:Int):Option ((Int) ⊕ ((Unit) ⊕ (Bool))):=if v3 < (v1.length:Int) then if 0≤v3 then (v1[(v3).toNat]?).bind fun x4=>(spec_l10Area v2).bind fun r5=>(spec_l00In x4.1 r5 ((IntKind.i64.wrap (v2.1 - 1)))).bind fun r6=>if ¬(r6=true) then some (.inr (.inr false)) else some (.inl ((IntKind.i64.wrap (v3+1)))) else none else some (.inr (.inl ()))
theorem g78l1_b_eq  (v1:List (Int×Str)) (v2:Int×Int×Int×Int) (v3:Int):X g78_S g78l1_cb (keepEnv [1,2,5] [(1,(.vs (rows v1))),(2,(.ptr 0 0 0)),(5,(.int .i64 v3))]) [(.live 4 [[(.int .i64 v2.1),(.int .i64 v2.2.1),(.int .i64 v2.2.2.1),(.int .i64 v2.2.2.2)]])]=(spec_l11Within_l1_b v1 v2 v3).map (Sum.elim (fun s=>(TX.nrm,[(1,(.vs (rows v1))),(2,(.ptr 0 0 0)),(5,(.int .i64 s))],[(.live 4 [[(.int .i64 v2.1),(.int .i64 v2.2.1),(.int .i64 v2.2.2.1),(.int .i64 v2.2.2.2)]])])) g78l1_F):=by
  simp (maxSteps:=2000000) (maxDischargeDepth:=8) -implicitDefEqProofs [g78l1_cb,spec_l11Within_l1_b] <;> (try simp only [map_to_bind,some_elim,g78l1_F])
def spec_l11Within_l1 (v1:List (Int×Str)) (v2:Int×Int×Int×Int) (s:Int):Option ((Unit) ⊕ (Bool)):=loopO (fun s=>spec_l11Within_l1_b v1 v2 s) s
@[simp] theorem g78l1_eq (y0 y1 y2 y3 y4 y5):X g78_S g78l1_c [(1,(.vs (rows y0))),(2,(.ptr 0 0 0)),(5,(.int .i64 y5))] [(.live 4 [[(.int .i64 y1),(.int .i64 y2),(.int .i64 y3),(.int .i64 y4)]])]=(spec_l11Within_l1 y0 ((y1,y2,y3,y4)) y5).map g78l1_F:=by
  exact loop_X _ _ _ _ (by intro r;first | (simp;done) | (rcases r with r | r <;> simp;done) | (rcases r with r | r | r <;> simp;done) | (rcases r with r | r | r | r <;> simp)) (fun s=>g78l1_b_eq  y0 ((y1,y2,y3,y4)) s) y5
def spec_l11Within (a_s:Int×Int×Int×Int) (a_list:List (Int×Str)):Option (Bool):=(spec_l11Within_l1 a_list a_s 0).bind fun r7=>Sum.elim (fun u8=>some true) (fun u9=>some u9) r7
@[simp] def g78_O:Bool→TV×List Blk:=fun r=>((.bool r),[])
def g78_E (a:(Int×Int×Int×Int)×(List (Int×Str))):List TV:=[(.agg [(.int .i64 a.1.1),(.int .i64 a.1.2.1),(.int .i64 a.1.2.2.1),(.int .i64 a.1.2.2.2)]),(.vs (rows a.2))]
theorem g78_run (a_s:Int×Int×Int×Int) (a_list:List (Int×Str)) :callFn (X g78_S) g78_tf (g78_E (a_s,a_list)) []=(spec_l11Within a_s a_list).map g78_O:=by
  rw [callFn_eq]
  simp (maxSteps:=2000000) (maxDischargeDepth:=8) -implicitDefEqProofs [g78_tf,spec_l11Within,g78_E] <;> (try simp only [map_to_bind,some_elim,g78_O])
def g78_r:Rule:=RlO g78_E (fun a=>spec_l11Within a.1 a.2) g78_O
theorem g78_ok:RuleOk Tryz.prog 50 g78_r:=ok_rlo (S:=g78_S) (tf:=g78_tf) (SysOk.on ⟨g101_ok,g125_ok,trivial⟩ trivial) (trE_ok (ks:=[[1,2,5],[10]]) Tryz.func50 (by kernel_rfl)) fun a=>g78_run a.1 a.2
@[simp] theorem g78_app (y0 y1 y2 y3 y4):g78_r [(.agg [(.int .i64 y0),(.int .i64 y1),(.int .i64 y2),(.int .i64 y3)]),(.vs (rows y4))]=(spec_l11Within ((y0,y1,y2,y3)) y4).map g78_O :=
  RlO_app (enc:=g78_E) (by intro a b h;simp [g78_E,Prod.ext_iff] at h ⊢;simp [h]) ((y0,y1,y2,y3),y4)
@[simp] theorem g78_app_a_list (y0 y1 y2 y3):g78_r [(.agg [(.int .i64 y0),(.int .i64 y1),(.int .i64 y2),(.int .i64 y3)]),(.vs [])]=(spec_l11Within ((y0,y1,y2,y3)) (([]:List (Int×Str)))).map g78_O :=
  g78_app y0 y1 y2 y3 ([]:List (Int×Str)) 
/-! spec.l11Scan -/
def g102l1_cb:TC:=(.seq (sq [mo 15 8,fa 16 1 3,ld 17 16,bn 18 .lss (.t 15) (.t 17)] [3,6,7,8,18] (.cond (.t 18) .skip (.keep (kp [(7,1),(8,0)] [] 0) (.exit 0)))) (.trim [3,6,7,8] (.block 1 (sq [mo 20 6,mo 21 8,oo 22 (.slice 1 (.t 20) (some (.t 21)) none none),ca 23 150 [.t 22],mo 19 23,oo 24 (.ext (.t 19) 0),oo 25 (.ext (.t 19) 1),oo 9 (.alloc [(.int .i64 0),.nils]),⟨none,none,(.store 2 (.t 9) (.t 24))⟩,mo 10 25] [3,7,8,9,10] (.seq (sq [mo 26 10,bn 27 .neq (.t 26) (ki 0),mo 28 27,⟨(some 29),(some (28,false)),(.faddr 0 (.t 9))⟩,⟨(some 30),(some (28,false)),(.load none (.t 29))⟩,⟨(some 31),(some (28,false)),(.faddr 2 (.t 3))⟩,⟨(some 32),(some (28,false)),(.load none (.t 31))⟩,⟨(some 33),(some (28,false)),(.mv (.t 7))⟩,⟨(some 34),(some (28,false)),(.len false (.t 33))⟩,⟨(some 35),(some (28,false)),(.bin .num .add (.t 32) (.t 34))⟩,⟨(some 36),(some (28,false)),(.bin .num .add (.t 35) (ki 1))⟩,⟨(some 37),(some (28,false)),(.bin .num .neq (.t 30) (.t 36))⟩,pk 38 (.t 28) (kb true) (.t 37),mo 39 38,⟨(some 40),(some (39,false)),(.load (some 4) (.t 3))⟩,⟨(some 41),(some (39,false)),(.faddr 1 (.t 9))⟩,⟨(some 42),(some (39,false)),(.load none (.t 41))⟩,⟨(some 43),(some (39,false)),(.call 50 [.t 40,.t 42])⟩,⟨(some 44),(some (39,false)),(.un .not (.t 43))⟩,pk 45 (.t 39) (kb true) (.t 44)] [7,8,45] (.cond (.t 45) (.keep (kp [(7,1),(8,0)] [] 0) (.exit 0)) .skip)) (.trim [] .bad))))))
def g102l1_c:TC:=.loop [3,6,7,8] g102l1_cb
def g102_tf:TFn:=⟨(sq [bx 3 1,mk 4 (.c .nils),mk 5 (ki 0)] [0,3] (sq [mo 11 0,ln 12 4 3,ca 13 149 [.t 11,.t 12],mo 6 13] [3,6] (sq [oo 14 (.bslice [(.int .i64 0),.nils] 0 []),mo 7 14] [3,6,7] (sq [mk 8 (ki 0)] [3,6,7,8] (.seq (.block 0 (.keep (kp [(3,0),(6,0),(7,1),(8,0)] [(0,0)] 0) g102l1_c)) (.trim [7,8] (.seq (.ops [mo 56 7,mo 57 8,mo 4 56,mo 5 57]) (.keep (kp [(4,1),(5,0)] [] 0) .ret)))))))),[.t 4,.t 5]⟩
abbrev g102_S:=Sys.on [(149,g118_r),(150,g77_r),(50,g78_r)] []
@[reducible,simp] def g102l1_F:Int→Out:=(fun t=>(.ext 0,[(7,.es),(8,(.int .i64 t))],[]))
def spec_l11Scan_l1_b (v2:Int×Int×Int×Int) (v3:List Str) (v4:Int):Option ((Unit) ⊕ (Int)):=if v4 < v2.2.1 then (subL v3 (some v4) none).bind fun l5=>(spec_l11Decode l5).bind fun r6=>if ¬(r6.2=0) then some (.inr v4) else if ¬(r6.1=(IntKind.i64.wrap ((IntKind.i64.wrap (v2.2.2.1+0))+1))) then some (.inr v4) else (spec_l11Within v2 (([]:List (Int×Str)))).bind fun r7=>if ¬(r7=true) then some (.inr v4) else none else some (.inr v4)
theorem g102l1_b_eq  (v2:Int×Int×Int×Int) (v3:List Str) (v4:Int):X g102_S g102l1_cb (keepEnv [3,6,7,8] [(3,(.ptr 0 0 0)),(6,(.vs (rows v3))),(7,.es),(8,(.int .i64 v4))]) [(.live 4 [[(.int .i64 v2.1),(.int .i64 v2.2.1),(.int .i64 v2.2.2.1),(.int .i64 v2.2.2.2)]])]=(spec_l11Scan_l1_b v2 v3 v4).map (Sum.elim (fun s=>(TX.nrm,[(3,(.ptr 0 0 0)),(6,(.vs (rows v3))),(7,.es),(8,(.int .i64 v4))],[(.live 4 [[(.int .i64 v2.1),(.int .i64 v2.2.1),(.int .i64 v2.2.2.1),(.int .i64 v2.2.2.2)]])])) g102l1_F):=by
  simp (maxSteps:=2000000) (maxDischargeDepth:=8) -implicitDefEqProofs [g102l1_cb,spec_l11Scan_l1_b] <;> (try simp only [map_to_bind,some_elim,g102l1_F])
def spec_l11Scan_l1 (v2:Int×Int×Int×Int) (v3:List Str) (v4:Int) (s:Unit):Option (Int):=loopO (fun s=>spec_l11Scan_l1_b v2 v3 v4 ) s
@[simp] theorem g102l1_eq (y0 y1 y2 y3 y4 y5):X g102_S g102l1_c [(3,(.ptr 0 0 0)),(6,(.vs (rows y4))),(7,.es),(8,(.int .i64 y5))] [(.live 4 [[(.int .i64 y0),(.int .i64 y1),(.int .i64 y2),(.int .i64 y3)]])]=(spec_l11Scan_l1 ((y0,y1,y2,y3)) y4 y5 ()).map g102l1_F:=by
  exact loop_X _ _ _ _ (by intro r;first | (simp;done) | (rcases r with r | r <;> simp;done) | (rcases r with r | r | r <;> simp;done) | (rcases r with r | r | r | r <;> simp)) (fun s=>g102l1_b_eq  ((y0,y1,y2,y3)) y4 y5 ) ()
def spec_l11Scan (a_d:K0) (a_s:Int×Int×Int×Int):Option (Int):=(spec_l11Log a_d a_s).bind fun r1=>(spec_l11Scan_l1 a_s r1 0 (())).bind fun r8=>some r8
@[simp] def g102_O:Int→TV×List Blk:=fun r=>((.tup [.es,(.int .i64 r)]),[])
def g102_E (a:K0×(Int×Int×Int×Int)×List TV):List TV:=[(.vp ((.vs (rows a.1.1))::(.vs (rows a.1.2.1))::(.int .i64 a.1.2.2.1)::(.bool a.1.2.2.2)::a.2.2)),(.agg [(.int .i64 a.2.1.1),(.int .i64 a.2.1.2.1),(.int .i64 a.2.1.2.2.1),(.int .i64 a.2.1.2.2.2)])]
theorem g102_run (a_d:K0) (a_s:Int×Int×Int×Int) (q0:List TV):callFn (X g102_S) g102_tf (g102_E (a_d,a_s,q0)) []=(spec_l11Scan a_d a_s).map g102_O:=by
  rw [callFn_eq]
  simp (maxSteps:=2000000) (maxDischargeDepth:=8) -implicitDefEqProofs [g102_tf,spec_l11Scan,g102_E] <;> (try simp only [map_to_bind,some_elim,g102_O])
def g102_r:Rule:=RlO g102_E (fun a=>spec_l11Scan a.1 a.2.1) g102_O
theorem g102_ok:RuleOk Tryz.prog 129 g102_r:=ok_rlo (S:=g102_S) (tf:=g102_tf) (SysOk.on ⟨g118_ok,g77_ok,g78_ok,trivial⟩ trivial) (trE_ok (ks:=[[3,6,7,8],[2000002,4]]) Tryz.func129 (by kernel_rfl)) fun a=>g102_run a.1 a.2.1 a.2.2
@[simp] theorem g102_app (y0 y1 y2 y3 y4 y5 y6 y7)(q0:List TV):g102_r [(.vp ((.vs (rows y0))::(.vs (rows y1))::(.int .i64 y2)::(.bool y3)::q0)),(.agg [(.int .i64 y4),(.int .i64 y5),(.int .i64 y6),(.int .i64 y7)])]=(spec_l11Scan ((y0,y1,y2,y3)) ((y4,y5,y6,y7))).map g102_O :=
  RlO_app (enc:=g102_E) (by intro a b h;simp [g102_E,Prod.ext_iff] at h ⊢;simp [h]) ((y0,y1,y2,y3),(y4,y5,y6,y7),q0)
/-! spec.l11State -/
def g88l1_cb:TC:=(.seq (sq [mo 12 8,mo 13 0,le 14 13,bn 15 .lss (.t 12) (.t 14)] [6,7,15] (.cond (.t 15) .skip (.keep (kp [(6,1),(7,0)] [] 0) (.exit 0)))) (.trim [] .bad))
def g88l1_c:TC:=.loop [0,6,7,8] g88l1_cb
def g88_tf:TFn:=⟨(sq [bx 3 1,mk 4 (.c .nils),mk 5 (ki 0)] [0,3] (sq [oo 9 (.bslice [(.int .i64 0),(.str [])] 0 []),mo 6 9] [0,3,6] (sq [fa 10 2 3,ld 11 10,mo 7 11] [0,6,7] (.seq (sq [mk 8 (ki 0)] [0,6,7,8] (.block 0 (.keep (kp [(0,0),(6,1),(7,0),(8,0)] [] 0) g88l1_c))) (.trim [6,7] (.seq (.ops [mo 30 6,mo 31 7,mo 4 30,mo 5 31]) (.keep (kp [(4,1),(5,0)] [] 0) .ret))))))),[.t 4,.t 5]⟩
abbrev g88_S:=Sys.on [] []
@[reducible,simp] def g88l1_F:Int→Out:=(fun t=>(.ext 0,[(6,.es),(7,(.int .i64 t))],[]))
def spec_l11State_l1_b (v1:List (Int×List (Int×Str))) (v2:Int) (v3:Int):Option ((Unit) ⊕ (Int)):=if v3 < (v1.length:Int) then none else some (.inr v2)
theorem g88l1_b_eq  (v1:List (Int×List (Int×Str))) (v2:Int) (v3:Int):X g88_S g88l1_cb (keepEnv [0,6,7,8] [(0,(.vs (rows v1))),(6,.es),(7,(.int .i64 v2)),(8,(.int .i64 v3))]) []=(spec_l11State_l1_b v1 v2 v3).map (Sum.elim (fun s=>(TX.nrm,[(0,(.vs (rows v1))),(6,.es),(7,(.int .i64 v2)),(8,(.int .i64 v3))],[])) g88l1_F):=by
  simp (maxSteps:=2000000) (maxDischargeDepth:=8) -implicitDefEqProofs [g88l1_cb,spec_l11State_l1_b] <;> (try simp only [map_to_bind,some_elim,g88l1_F])
def spec_l11State_l1 (v1:List (Int×List (Int×Str))) (v2:Int) (v3:Int) (s:Unit):Option (Int):=loopO (fun s=>spec_l11State_l1_b v1 v2 v3 ) s
@[simp] theorem g88l1_eq (y0 y1 y2):X g88_S g88l1_c [(0,(.vs (rows y0))),(6,.es),(7,(.int .i64 y1)),(8,(.int .i64 y2))] []=(spec_l11State_l1 y0 y1 y2 ()).map g88l1_F:=by
  exact loop_X _ _ _ _ (by intro r;first | (simp;done) | (rcases r with r | r <;> simp;done) | (rcases r with r | r | r <;> simp;done) | (rcases r with r | r | r | r <;> simp)) (fun s=>g88l1_b_eq  y0 y1 y2 ) ()
def spec_l11State (a_list:List (Int×List (Int×Str))) (a_s:Int×Int×Int×Int):Option (Int):=(spec_l11State_l1 a_list a_s.2.2.1 0 (())).bind fun r4=>some r4
@[simp] def g88_O:Int→TV×List Blk:=fun r=>((.tup [.es,(.int .i64 r)]),[])
def g88_E (a:(List (Int×List (Int×Str)))×(Int×Int×Int×Int)):List TV:=[(.vs (rows a.1)),(.agg [(.int .i64 a.2.1),(.int .i64 a.2.2.1),(.int .i64 a.2.2.2.1),(.int .i64 a.2.2.2.2)])]
theorem g88_run (a_list:List (Int×List (Int×Str))) (a_s:Int×Int×Int×Int) :callFn (X g88_S) g88_tf (g88_E (a_list,a_s)) []=(spec_l11State a_list a_s).map g88_O:=by
  rw [callFn_eq]
  simp (maxSteps:=2000000) (maxDischargeDepth:=8) -implicitDefEqProofs [g88_tf,spec_l11State,g88_E] <;> (try simp only [map_to_bind,some_elim,g88_O])
def g88_r:Rule:=RlO g88_E (fun a=>spec_l11State a.1 a.2) g88_O
theorem g88_ok:RuleOk Tryz.prog 130 g88_r:=ok_rlo (S:=g88_S) (tf:=g88_tf) (SysOk.on trivial trivial) (trE_ok (ks:=[[0,6,7,8],[2000002,1]]) Tryz.func130 (by kernel_rfl)) fun a=>g88_run a.1 a.2
@[simp] theorem g88_app (y0 y1 y2 y3 y4):g88_r [(.vs (rows y0)),(.agg [(.int .i64 y1),(.int .i64 y2),(.int .i64 y3),(.int .i64 y4)])]=(spec_l11State y0 ((y1,y2,y3,y4))).map g88_O :=
  RlO_app (enc:=g88_E) (by intro a b h;simp [g88_E,Prod.ext_iff] at h ⊢;simp [h]) (y0,(y1,y2,y3,y4))
@[simp] theorem g88_app_a_list (y0 y1 y2 y3):g88_r [(.vs []),(.agg [(.int .i64 y0),(.int .i64 y1),(.int .i64 y2),(.int .i64 y3)])]=(spec_l11State (([]:List (Int×List (Int×Str)))) ((y0,y1,y2,y3))).map g88_O :=
  g88_app ([]:List (Int×List (Int×Str))) y0 y1 y2 y3 
/-! spec.l09Own -/
def g119_tf:TFn:=⟨(sq [oo 2 (.alloc [.nils,.nils,(.int .i64 0),(.bool false)])] [0,2] (.seq (.draw [([],oo 3 (.bslice [(.str [])] 0 [])),([],mo 4 0),([1],nk 5 4),([1,2],fa 6 0 5),([1,2,3],ld 7 6),([0,1,2,3,4],oo 8 (.append 9 1 16 (.t 3) (.t 7))),([],oo 9 (.bslice [(.int .i64 0),(.str [])] 0 [])),([],mo 10 0),([7],nk 11 10),([7,8],fa 12 1 11),([7,8,9],ld 13 12),([0,1,2,3,4,5,6,7,8,9,10],oo 14 (.append 111 2 24 (.t 9) (.t 13))),([],mo 15 0),([12],nk 16 15),([12,13],fa 17 2 16),([12,13,14],ld 18 17),([],mo 19 0),([16],nk 20 19),([16,17],fa 21 3 20),([16,17,18],ld 22 21)] [oo 23 (.build [.nils,.nils,(.int .i64 0),(.bool false)] [(0,1,(.t 8)),(1,1,(.t 14)),(2,1,(.t 18)),(3,1,(.t 22))]),⟨none,none,(.store 4 (.t 2) (.t 23))⟩]) (.keep (kp [(2,0)] [(0,2),(1,1),(2,1)] 0) .ret))),[.cell 2 (some 4)]⟩
abbrev g119_S:=Sys.on [] []
def spec_l09Own (a_d:K0):Option (K0):=(appL 16 ([]:List Str) a_d.1).bind fun l1=>(appL 24 ([]:List (Int×Str)) a_d.2.1).bind fun l2=>some ((l1,l2,a_d.2.2.1,a_d.2.2.2))
@[simp] def g119_O:(K0)→TV×List Blk:=fun r=>((.agg [(ow 1 r.1.length),(ow 2 r.2.1.length),(.int .i64 r.2.2.1),(.bool r.2.2.2)]),[(.live 4 [[(ow 1 r.1.length),(ow 2 r.2.1.length),(.int .i64 r.2.2.1),(.bool r.2.2.2)]]),(ob 1 r.1),(ob 2 r.2.1)])
def g119_E (a:K0×List TV):List TV:=[(.vp ((.vs (rows a.1.1))::(.vs (rows a.1.2.1))::(.int .i64 a.1.2.2.1)::(.bool a.1.2.2.2)::a.2))]
theorem g119_run (a_d:K0) (q0:List TV):callFn (X g119_S) g119_tf (g119_E (a_d,q0)) []=(spec_l09Own a_d).map g119_O:=by
  rw [callFn_eq]
  simp (maxSteps:=2000000) (maxDischargeDepth:=8) -implicitDefEqProofs [g119_tf,spec_l09Own,g119_E] <;> (try simp only [map_to_bind,some_elim,g119_O])
def g119_r:Rule:=RlO g119_E (fun a=>spec_l09Own a.1) g119_O
theorem g119_ok:RuleOk Tryz.prog 151 g119_r:=ok_rlo (S:=g119_S) (tf:=g119_tf) (SysOk.on trivial trivial) (trE_ok (ks:=[[20]]) Tryz.func151 (by kernel_rfl)) fun a=>g119_run a.1 a.2
@[simp] theorem g119_app (y0 y1 y2 y3)(q0:List TV):g119_r [(.vp ((.vs (rows y0))::(.vs (rows y1))::(.int .i64 y2)::(.bool y3)::q0))]=(spec_l09Own ((y0,y1,y2,y3))).map g119_O :=
  RlO_app (enc:=g119_E) (by intro a b h;simp [g119_E,Prod.ext_iff] at h ⊢;simp [h]) ((y0,y1,y2,y3),q0)
/-! spec.l12Pages -/
def g89_tf:TFn:=⟨(sq [mk 2 (.c .nils)] [0] (.seq (.ops [oo 3 (.bslice [(.int .i64 0),(.str [])] 0 []),mo 4 0,oo 5 (.append 83 2 24 (.t 3) (.t 4)),mo 2 5]) (.keep (kp [(2,1)] [(0,1)] 0) .ret))),[.t 2]⟩
abbrev g89_S:=Sys.on [] []
def spec_l12Pages (a_list:List (Int×Str)):Option ((List (Int×Str))):=(appL 24 ([]:List (Int×Str)) a_list).bind fun l1=>some l1
@[simp] def g89_O:((List (Int×Str)))→TV×List Blk:=fun r=>((ow 0 r.length),[(ob 2 r)])
def g89_E (a:(List (Int×Str))):List TV:=[(.vs (rows a))]
theorem g89_run (a_list:List (Int×Str)) :callFn (X g89_S) g89_tf (g89_E a_list) []=(spec_l12Pages a_list).map g89_O:=by
  rw [callFn_eq]
  simp (maxSteps:=2000000) (maxDischargeDepth:=8) -implicitDefEqProofs [g89_tf,spec_l12Pages,g89_E] <;> (try simp only [map_to_bind,some_elim,g89_O])
def g89_r:Rule:=RlO g89_E (fun a=>spec_l12Pages a) g89_O
theorem g89_ok:RuleOk Tryz.prog 152 g89_r:=ok_rlo (S:=g89_S) (tf:=g89_tf) (SysOk.on trivial trivial) (trE_ok (ks:=[]) Tryz.func152 (by kernel_rfl)) fun a=>g89_run a
@[simp] theorem g89_app (y0):g89_r [(.vs (rows y0))]=(spec_l12Pages y0).map g89_O :=
  RlO_app (enc:=g89_E) (by intro a b h;simp [g89_E,Prod.ext_iff] at h ⊢;simp [h]) y0
/-! spec.l12Own -/
def g120_tf:TFn:=⟨(sq [oo 2 (.alloc [.nils,.nils,(.int .i64 0),(.bool false),(.int .i64 0),(.int .i64 0),(.int .i64 0),(.int .i64 0),(.int .i64 0),(.int .i64 0),.nils,.nils])] [0,2] (.seq (.draw [([],mo 3 0),([0],nk 4 3),([0,1],fa 5 0 4),([0,1,2],ca 6 151 [.t 5]),([],mo 7 0),([4],nk 8 7),([4,5],fa 9 4 8),([4,5,6],ln 10 4 9),([],mo 11 0),([8],nk 12 11),([8,9],fa 13 8 12),([8,9,10],ld 14 13),([],mo 15 0),([12],nk 16 15),([12,13],fa 17 9 16),([12,13,14],ld 18 17),([],mo 19 0),([16],nk 20 19),([16,17],fa 21 10 20),([16,17,18],ld 22 21),([0,1,2,3,16,17,18,19],ca 23 152 [.t 22]),([],mo 24 0),([21],nk 25 24),([21,22],fa 26 11 25),([21,22,23],ld 27 26),([0,1,2,3,16,17,18,19,20,21,22,23,24],ca 28 152 [.t 27])] [oo 29 (.build [.nils,.nils,(.int .i64 0),(.bool false),(.int .i64 0),(.int .i64 0),(.int .i64 0),(.int .i64 0),(.int .i64 0),(.int .i64 0),.nils,.nils] [(0,4,(.t 6)),(4,4,(.t 10)),(8,1,(.t 14)),(9,1,(.t 18)),(10,1,(.t 23)),(11,1,(.t 28))]),⟨none,none,(.store 12 (.t 2) (.t 29))⟩]) (.keep (kp [(2,0)] [(0,2),(2,1),(3,1),(4,1),(5,1)] 0) .ret))),[.cell 2 (some 12)]⟩
abbrev g120_S:=Sys.on [(151,g119_r),(152,g89_r)] []
def spec_l12Own (a_p:K1):Option (K1):=(spec_l09Own a_p.1).bind fun r1=>(spec_l12Pages a_p.2.2.2.2.1).bind fun r2=>(spec_l12Pages a_p.2.2.2.2.2).bind fun r3=>some ((r1,a_p.2.1,a_p.2.2.1,a_p.2.2.2.1,r2,r3))
@[simp] def g120_O:(K1)→TV×List Blk:=fun r=>((.agg [(ow 1 r.1.1.length),(ow 2 r.1.2.1.length),(.int .i64 r.1.2.2.1),(.bool r.1.2.2.2),(.int .i64 r.2.1.1),(.int .i64 r.2.1.2.1),(.int .i64 r.2.1.2.2.1),(.int .i64 r.2.1.2.2.2),(.int .i64 r.2.2.1),(.int .i64 r.2.2.2.1),(ow 3 r.2.2.2.2.1.length),(ow 4 r.2.2.2.2.2.length)]),[(.live 12 [[(ow 1 r.1.1.length),(ow 2 r.1.2.1.length),(.int .i64 r.1.2.2.1),(.bool r.1.2.2.2),(.int .i64 r.2.1.1),(.int .i64 r.2.1.2.1),(.int .i64 r.2.1.2.2.1),(.int .i64 r.2.1.2.2.2),(.int .i64 r.2.2.1),(.int .i64 r.2.2.2.1),(ow 3 r.2.2.2.2.1.length),(ow 4 r.2.2.2.2.2.length)]]),(ob 1 r.1.1),(ob 2 r.1.2.1),(ob 2 r.2.2.2.2.1),(ob 2 r.2.2.2.2.2)])
def g120_E (a:K1×List TV):List TV:=[(.vp ((.vs (rows a.1.1.1))::(.vs (rows a.1.1.2.1))::(.int .i64 a.1.1.2.2.1)::(.bool a.1.1.2.2.2)::(.int .i64 a.1.2.1.1)::(.int .i64 a.1.2.1.2.1)::(.int .i64 a.1.2.1.2.2.1)::(.int .i64 a.1.2.1.2.2.2)::(.int .i64 a.1.2.2.1)::(.int .i64 a.1.2.2.2.1)::(.vs (rows a.1.2.2.2.2.1))::(.vs (rows a.1.2.2.2.2.2))::a.2))]
theorem g120_run (a_p:K1) (q0:List TV):callFn (X g120_S) g120_tf (g120_E (a_p,q0)) []=(spec_l12Own a_p).map g120_O:=by
  rw [callFn_eq]
  simp (maxSteps:=2000000) (maxDischargeDepth:=8) -implicitDefEqProofs [g120_tf,spec_l12Own,g120_E] <;> (try simp only [map_to_bind,some_elim,g120_O])
def g120_r:Rule:=RlO g120_E (fun a=>spec_l12Own a.1) g120_O
theorem g120_ok:RuleOk Tryz.prog 131 g120_r:=ok_rlo (S:=g120_S) (tf:=g120_tf) (SysOk.on ⟨g119_ok,g89_ok,trivial⟩ trivial) (trE_ok (ks:=[[26]]) Tryz.func131 (by kernel_rfl)) fun a=>g120_run a.1 a.2
@[simp] theorem g120_app (y0 y1 y2 y3 y4 y5 y6 y7 y8 y9 y10 y11)(q0:List TV):g120_r [(.vp ((.vs (rows y0))::(.vs (rows y1))::(.int .i64 y2)::(.bool y3)::(.int .i64 y4)::(.int .i64 y5)::(.int .i64 y6)::(.int .i64 y7)::(.int .i64 y8)::(.int .i64 y9)::(.vs (rows y10))::(.vs (rows y11))::q0))]=(spec_l12Own (((y0,y1,y2,y3),(y4,y5,y6,y7),y8,y9,y10,y11))).map g120_O :=
  RlO_app (enc:=g120_E) (by intro a b h;simp [g120_E,Prod.ext_iff] at h ⊢;simp [h]) (((y0,y1,y2,y3),(y4,y5,y6,y7),y8,y9,y10,y11),q0)
@[simp] theorem g120_app_a_p_10_a_p_11 (y0 y1 y2 y3 y4 y5 y6 y7 y8 y9)(q0:List TV):g120_r [(.vp ((.vs (rows y0))::(.vs (rows y1))::(.int .i64 y2)::(.bool y3)::(.int .i64 y4)::(.int .i64 y5)::(.int .i64 y6)::(.int .i64 y7)::(.int .i64 y8)::(.int .i64 y9)::(.vs [])::(.vs [])::q0))]=(spec_l12Own (((y0,y1,y2,y3),(y4,y5,y6,y7),y8,y9,([]:List (Int×Str)),([]:List (Int×Str))))).map g120_O :=
  g120_app y0 y1 y2 y3 y4 y5 y6 y7 y8 y9 ([]:List (Int×Str)) ([]:List (Int×Str)) q0
/-! spec.l09Power -/
def g34_tf:TFn:=⟨(sq [mk 2 (kb false)] [0] (.seq (sq [mo 3 0,nk 4 3,fa 5 3 4,ld 6 5,mo 7 6,⟨(some 8),(some (7,false)),(.mv (.t 0))⟩,⟨(some 9),(some (7,false)),(.nilchk (.t 8))⟩,⟨(some 10),(some (7,false)),(.faddr 2 (.t 9))⟩,⟨(some 11),(some (7,false)),(.load none (.t 10))⟩,⟨(some 12),(some (7,false)),(.bin .num .eql (.t 11) (ki 0))⟩,pk 13 (.t 7) (kb true) (.t 12)] [0,13] (.cond (.t 13) (sq [mo 14 0,nk 15 14,fa 16 3 15,⟨none,none,(.store 1 (.t 16) (kb true))⟩] [] (.seq (.ops [mk 2 (kb false)]) (.keep (kp [(2,0)] [(0,2),(1,1),(2,1),(3,1),(4,1)] 2) .ret))) .skip)) (.trim [0] (.seq (sq [mo 17 0,nk 18 17,fa 19 2 18,ld 20 19,bn 21 .gtr (.t 20) (ki 0)] [0,21] (.cond (.t 21) (.after (.ops [mo 22 0,nk 23 22,fa 24 2 23,ld 25 24,bn 26 .sub (.t 25) (ki 1),nk 27 22,fa 28 2 27,⟨none,none,(.store 1 (.t 28) (.t 26))⟩]) (kp [] [(0,2),(1,1),(2,1),(3,1),(4,1)] 2)) (.keep (kp [] [(0,2),(1,1),(2,1),(3,1),(4,1)] 2) .skip))) (.trim [] (.seq (.ops [mk 2 (kb true)]) (.keep (kp [(2,0)] [(0,2),(1,1),(2,1),(3,1),(4,1)] 2) .ret))))))),[.t 2]⟩
abbrev g34_S:=Sys.on [] []
def spec_l09Power_o36 (a1:K1):Option (List Str×(List (Int×Str))×Int×Bool×Int×Int×Int×Int×Int×Int×(List (Int×Str))×(List (Int×Str))×Bool):=if a1.1.2.2.2=true then some (a1.1.1,a1.1.2.1,a1.1.2.2.1,true,a1.2.1.1,a1.2.1.2.1,a1.2.1.2.2.1,a1.2.1.2.2.2,a1.2.2.1,a1.2.2.2.1,a1.2.2.2.2.2,a1.2.2.2.2.1,false) else if a1.1.2.2.1=0 then some (a1.1.1,a1.1.2.1,a1.1.2.2.1,true,a1.2.1.1,a1.2.1.2.1,a1.2.1.2.2.1,a1.2.1.2.2.2,a1.2.2.1,a1.2.2.2.1,a1.2.2.2.2.2,a1.2.2.2.2.1,false) else if a1.1.2.2.1 > 0 then some (a1.1.1,a1.1.2.1,(IntKind.i64.wrap (a1.1.2.2.1 - 1)),a1.1.2.2.2,a1.2.1.1,a1.2.1.2.1,a1.2.1.2.2.1,a1.2.1.2.2.2,a1.2.2.1,a1.2.2.2.1,a1.2.2.2.2.2,a1.2.2.2.2.1,true) else some (a1.1.1,a1.1.2.1,a1.1.2.2.1,a1.1.2.2.2,a1.2.1.1,a1.2.1.2.1,a1.2.1.2.2.1,a1.2.1.2.2.2,a1.2.2.1,a1.2.2.2.1,a1.2.2.2.2.2,a1.2.2.2.2.1,true)
@[simp] def g34_O:(List Str×(List (Int×Str))×Int×Bool×Int×Int×Int×Int×Int×Int×(List (Int×Str))×(List (Int×Str))×Bool)→TV×List Blk:=fun r=>((.bool r.2.2.2.2.2.2.2.2.2.2.2.2),[(.live 12 [[(ow 2 r.1.length),(ow 3 r.2.1.length),(.int .i64 r.2.2.1),(.bool r.2.2.2.1),(.int .i64 r.2.2.2.2.1),(.int .i64 r.2.2.2.2.2.1),(.int .i64 r.2.2.2.2.2.2.1),(.int .i64 r.2.2.2.2.2.2.2.1),(.int .i64 r.2.2.2.2.2.2.2.2.1),(.int .i64 r.2.2.2.2.2.2.2.2.2.1),(ow 1 r.2.2.2.2.2.2.2.2.2.2.2.1.length),(ow 4 r.2.2.2.2.2.2.2.2.2.2.1.length)]]),(ob 2 r.2.2.2.2.2.2.2.2.2.2.2.1),(ob 1 r.1),(ob 2 r.2.1),(ob 2 r.2.2.2.2.2.2.2.2.2.2.1)])
abbrev g34_T:=K1
def g34_E (a:g34_T):List TV:=[(.ptr 0 0 0)]
def g34_B (a:g34_T):List Blk:=[(.live 12 [[(ow 2 a.1.1.length),(ow 3 a.1.2.1.length),(.int .i64 a.1.2.2.1),(.bool a.1.2.2.2),(.int .i64 a.2.1.1),(.int .i64 a.2.1.2.1),(.int .i64 a.2.1.2.2.1),(.int .i64 a.2.1.2.2.2),(.int .i64 a.2.2.1),(.int .i64 a.2.2.2.1),(ow 1 a.2.2.2.2.1.length),(ow 4 a.2.2.2.2.2.length)]]),(ob 2 a.2.2.2.2.1),(ob 1 a.1.1),(ob 2 a.1.2.1),(ob 2 a.2.2.2.2.2)]
theorem g34_run (a1:K1) :callFn (X g34_S) g34_tf (g34_E a1) (g34_B a1)=(spec_l09Power_o36 a1).map g34_O:=by
  rw [callFn_eq]
  simp (maxSteps:=2000000) (maxDischargeDepth:=8) -implicitDefEqProofs [g34_tf,spec_l09Power_o36,g34_E,g34_B] <;> (try simp only [map_to_bind,some_elim,g34_O])
def g34_r:MRule:=RmO g34_E g34_B (fun a=>(spec_l09Power_o36 a).bind fun r=>if r.2.2.2.2.2.2.2.2.2.2.2.1.length=a.2.2.2.2.1.length then some (r.1,r.2.1,r.2.2.1,r.2.2.2.1,r.2.2.2.2.1,r.2.2.2.2.2.1,r.2.2.2.2.2.2.1,r.2.2.2.2.2.2.2.1,r.2.2.2.2.2.2.2.2.1,r.2.2.2.2.2.2.2.2.2.1,r.2.2.2.2.2.2.2.2.2.2.1,(fixLen a.2.2.2.2.1 r.2.2.2.2.2.2.2.2.2.2.2.1),r.2.2.2.2.2.2.2.2.2.2.2.2) else none) g34_O
theorem g34_ok0:MRuleOk Tryz.prog 159 2 (RmO g34_E g34_B (fun a=>spec_l09Power_o36 a) g34_O):=ok_rmo (S:=g34_S) (tf:=g34_tf) (SysOk.on trivial trivial) (trE_ok (ks:=[]) Tryz.func159 (by kernel_rfl)) (by rfl) (fun _=>by simp [g34_B]) (fun _=>by simp) fun a=>g34_run a
theorem g34_ok:MRuleOk Tryz.prog 159 2 g34_r:=g34_ok0.weak fun a r hr=>by
  simp only [Option.bind_eq_some_iff] at hr
  obtain ⟨x,h1,h2⟩:=hr
  split at h2
  · rename_i hc
    simp only [Option.some.injEq] at h2
    rw [h1,← h2]
    simp [fixLen,hc]
  · cases h2
@[simp] theorem g34_app (y0:List Str)(y1:List (Int×Str))(y2 y3 y4 y5 y6 y7 y8 y9)(y10:List (Int×Str))(y11:List (Int×Str)){n1:Nat}(h1:n1=y0.length){n2:Nat}(h2:n2=y1.length){n3:Nat}(h3:n3=y10.length){n4:Nat}(h4:n4=y11.length):g34_r [(.ptr 0 0 0)] [(.live 12 [[(ow 2 n1),(ow 3 n2),(.int .i64 y2),(.bool y3),(.int .i64 y4),(.int .i64 y5),(.int .i64 y6),(.int .i64 y7),(.int .i64 y8),(.int .i64 y9),(ow 1 n3),(ow 4 n4)]]),(ob 2 y10),(ob 1 y0),(ob 2 y1),(ob 2 y11)]=((spec_l09Power_o36 (((y0,y1,y2,y3),(y4,y5,y6,y7),y8,y9,y10,y11))).bind fun r=>if r.2.2.2.2.2.2.2.2.2.2.2.1.length=y10.length then some (r.1,r.2.1,r.2.2.1,r.2.2.2.1,r.2.2.2.2.1,r.2.2.2.2.2.1,r.2.2.2.2.2.2.1,r.2.2.2.2.2.2.2.1,r.2.2.2.2.2.2.2.2.1,r.2.2.2.2.2.2.2.2.2.1,r.2.2.2.2.2.2.2.2.2.2.1,(fixLen y10 r.2.2.2.2.2.2.2.2.2.2.2.1),r.2.2.2.2.2.2.2.2.2.2.2.2) else none).map g34_O:=by
  subst h1 h2 h3 h4
  exact RmO_app (enc:=g34_E) (encB:=g34_B) (by intro a b h h2;simp [g34_E,g34_B,Prod.ext_iff] at h h2 ⊢;simp [h,h2]) (((y0,y1,y2,y3),(y4,y5,y6,y7),y8,y9,y10,y11))
/-! spec.l09Barrier -/
def g24l1_cb:TC:=(.seq (sq [mo 7 3,mo 8 0,nk 9 8,fa 10 1 9,ld 11 10,le 12 11,bn 13 .lss (.t 7) (.t 12)] [0,3,13] (.cond (.t 13) .skip (.keep (kp [(0,0)] [(0,2),(1,1),(2,1),(3,1),(4,1)] 2) (.exit 0)))) (.trim [0,3] (.seq (.block 1 (.draw [([],mo 16 0),([0],nk 17 16),([0,1],fa 18 0 17),([0,1,2],ld 19 18),([],mo 20 0),([4],nk 21 20),([4,5],fa 22 1 21),([4,5,6],ld 23 22),([],mo 24 3),([4,5,6,7,8],ia 25 2 23 24),([4,5,6,7,8,9],fa 26 0 25),([4,5,6,7,8,9,10],ld 27 26),([],mo 28 0),([12],nk 29 28),([12,13],fa 30 1 29),([12,13,14],ld 31 30),([],mo 32 3),([12,13,14,15,16],ia 33 2 31 32),([12,13,14,15,16,17],fa 34 1 33),([12,13,14,15,16,17,18],ld 35 34)] [ia 36 1 19 27,⟨none,none,(.store 1 (.t 36) (.t 35))⟩])) (.trim [0,3] (.after (.ops [mo 14 3,bn 15 .add (.t 14) (ki 1),mo 3 15]) (kp [(0,0),(3,0)] [(0,2),(1,1),(2,1),(3,1),(4,1)] 2))))))
def g24l1_c:TC:=.loop [0,3] g24l1_cb
def g24_tf:TFn:=⟨(sq [mk 2 (ki 0)] [0] (.seq (sq [mo 4 0,oo 5 (.callM 159 0 [0,1,2,3,4] [.t 4]),nt 6 5] [0,6] (.cond (.t 6) (.seq (.ops [mk 2 (ki 13)]) (.keep (kp [(2,0)] [(0,2),(1,1),(5,1),(6,1),(7,1)] 2) .ret)) .skip)) (.trim [0] (.seq (sq [mk 3 (ki 0)] [0,3] (.block 0 (.keep (kp [(0,0),(3,0)] [(0,2),(1,1),(5,1),(6,1),(7,1)] 2) g24l1_c))) (.trim [0] (sq [mo 37 0,oo 38 (.bslice [(.int .i64 0),(.str [])] 0 []),nk 39 37,fa 40 1 39,⟨none,none,(.store 1 (.t 40) (.t 38))⟩] [] (.seq (.ops [mk 2 (ki 0)]) (.keep (kp [(2,0)] [(0,2),(1,1),(2,1),(1000,1),(4,1)] 2) .ret)))))))),[.t 2]⟩
abbrev g24_S:=Sys.on [] [((159,0),(2,g34_r))]
@[reducible,simp] def g24l1_F:(List Str×(List (Int×Str))×Int×Bool×Int×Int×Int×Int×Int×Int×(List (Int×Str))×(List (Int×Str)))→Out:=(fun t=>(.ext 0,[(0,(.ptr 0 0 0))],[(.live 12 [[(ow 2 t.1.length),(ow 3 t.2.1.length),(.int .i64 t.2.2.1),(.bool t.2.2.2.1),(.int .i64 t.2.2.2.2.1),(.int .i64 t.2.2.2.2.2.1),(.int .i64 t.2.2.2.2.2.2.1),(.int .i64 t.2.2.2.2.2.2.2.1),(.int .i64 t.2.2.2.2.2.2.2.2.1),(.int .i64 t.2.2.2.2.2.2.2.2.2.1),(ow 1 t.2.2.2.2.2.2.2.2.2.2.2.length),(ow 4 t.2.2.2.2.2.2.2.2.2.2.1.length)]]),(ob 2 t.2.2.2.2.2.2.2.2.2.2.2),(ob 1 t.1),(ob 2 t.2.1),(ob 2 t.2.2.2.2.2.2.2.2.2.2.1)]))
def spec_l09Barrier_o36_l1_b (v3:List (Int×Str)) (v4:Int) (v5:Bool) (v6:Int) (v7:Int) (v8:Int) (v9:Int) (v10:Int) (v11:Int) (v12:List (Int×Str)) (v13:List (Int×Str)) (v2:List Str) (v14:Int):Option ((List Str×Int) ⊕ (List Str×(List (Int×Str))×Int×Bool×Int×Int×Int×Int×Int×Int×(List (Int×Str))×(List (Int×Str)))):=if v14 < ((v3.length:Nat):Int) then if 0≤v14∧v14 < ((v3.length:Nat):Int) then (v3[(v14).toNat]?).bind fun x15=>if 0≤v14∧v14 < ((v3.length:Nat):Int) then (v3[(v14).toNat]?).bind fun x16=>if 0≤x15.1∧x15.1 < ((v2.length:Nat):Int) then (v2[(x15.1).toNat]?).bind fun x17=>some (.inl ((v2.set (x15.1).toNat x16.2),(IntKind.i64.wrap (v14+1)))) else none else none else none else some (.inr (v2,v3,v4,v5,v6,v7,v8,v9,v10,v11,v12,v13))
theorem g24l1_b_eq  (v3:List (Int×Str)) (v4:Int) (v5:Bool) (v6:Int) (v7:Int) (v8:Int) (v9:Int) (v10:Int) (v11:Int) (v12:List (Int×Str)) (v13:List (Int×Str)) (v2:List Str) (v14:Int):X g24_S g24l1_cb (keepEnv [0,3] [(0,(.ptr 0 0 0)),(3,(.int .i64 v14))]) [(.live 12 [[(ow 2 v2.length),(ow 3 v3.length),(.int .i64 v4),(.bool v5),(.int .i64 v6),(.int .i64 v7),(.int .i64 v8),(.int .i64 v9),(.int .i64 v10),(.int .i64 v11),(ow 1 v13.length),(ow 4 v12.length)]]),(ob 2 v13),(ob 1 v2),(ob 2 v3),(ob 2 v12)]=(spec_l09Barrier_o36_l1_b v3 v4 v5 v6 v7 v8 v9 v10 v11 v12 v13 v2 v14).map (Sum.elim (fun s=>(TX.nrm,[(0,(.ptr 0 0 0)),(3,(.int .i64 s.2))],[(.live 12 [[(ow 2 s.1.length),(ow 3 v3.length),(.int .i64 v4),(.bool v5),(.int .i64 v6),(.int .i64 v7),(.int .i64 v8),(.int .i64 v9),(.int .i64 v10),(.int .i64 v11),(ow 1 v13.length),(ow 4 v12.length)]]),(ob 2 v13),(ob 1 s.1),(ob 2 v3),(ob 2 v12)])) g24l1_F):=by
  simp (maxSteps:=2000000) (maxDischargeDepth:=8) -implicitDefEqProofs [g24l1_cb,spec_l09Barrier_o36_l1_b] <;> (try simp only [map_to_bind,some_elim,g24l1_F])
def spec_l09Barrier_o36_l1 (v3:List (Int×Str)) (v4:Int) (v5:Bool) (v6:Int) (v7:Int) (v8:Int) (v9:Int) (v10:Int) (v11:Int) (v12:List (Int×Str)) (v13:List (Int×Str)) (s:List Str×Int):Option (List Str×(List (Int×Str))×Int×Bool×Int×Int×Int×Int×Int×Int×(List (Int×Str))×(List (Int×Str))):=loopO (fun s=>spec_l09Barrier_o36_l1_b v3 v4 v5 v6 v7 v8 v9 v10 v11 v12 v13 s.1 s.2) s
@[simp] theorem g24l1_eq (y0:List Str)(y1:List (Int×Str))(y2 y3 y4 y5 y6 y7 y8 y9)(y10:List (Int×Str))(y11:List (Int×Str))(y12){n1:Nat}(h1:n1=y0.length){n2:Nat}(h2:n2=y1.length){n3:Nat}(h3:n3=y11.length){n4:Nat}(h4:n4=y10.length):X g24_S g24l1_c [(0,(.ptr 0 0 0)),(3,(.int .i64 y12))] [(.live 12 [[(ow 2 n1),(ow 3 n2),(.int .i64 y2),(.bool y3),(.int .i64 y4),(.int .i64 y5),(.int .i64 y6),(.int .i64 y7),(.int .i64 y8),(.int .i64 y9),(ow 1 n3),(ow 4 n4)]]),(ob 2 y11),(ob 1 y0),(ob 2 y1),(ob 2 y10)]=(spec_l09Barrier_o36_l1 y1 y2 y3 y4 y5 y6 y7 y8 y9 y10 y11 (y0,y12)).map g24l1_F:=by
  subst h1 h2 h3 h4
  exact loop_X _ _ _ _ (by intro r;first | (simp;done) | (rcases r with r | r <;> simp;done) | (rcases r with r | r | r <;> simp;done) | (rcases r with r | r | r | r <;> simp)) (fun s=>g24l1_b_eq  y1 y2 y3 y4 y5 y6 y7 y8 y9 y10 y11 s.1 s.2) (y0,y12)
def spec_l09Barrier_o36 (a1:K1):Option (List Str×(List (Int×Str))×Int×Bool×Int×Int×Int×Int×Int×Int×(List (Int×Str))×(List (Int×Str))×Int):=(spec_l09Power_o36 a1).bind fun r1=>if r1.2.2.2.2.2.2.2.2.2.2.2.1.length=a1.2.2.2.2.1.length then if ¬(r1.2.2.2.2.2.2.2.2.2.2.2.2=true) then some (r1.1,r1.2.1,r1.2.2.1,r1.2.2.2.1,r1.2.2.2.2.1,r1.2.2.2.2.2.1,r1.2.2.2.2.2.2.1,r1.2.2.2.2.2.2.2.1,r1.2.2.2.2.2.2.2.2.1,r1.2.2.2.2.2.2.2.2.2.1,r1.2.2.2.2.2.2.2.2.2.2.1,(fixLen a1.2.2.2.2.1 r1.2.2.2.2.2.2.2.2.2.2.2.1),13) else (spec_l09Barrier_o36_l1 r1.2.1 r1.2.2.1 r1.2.2.2.1 r1.2.2.2.2.1 r1.2.2.2.2.2.1 r1.2.2.2.2.2.2.1 r1.2.2.2.2.2.2.2.1 r1.2.2.2.2.2.2.2.2.1 r1.2.2.2.2.2.2.2.2.2.1 r1.2.2.2.2.2.2.2.2.2.2.1 ((fixLen a1.2.2.2.2.1 r1.2.2.2.2.2.2.2.2.2.2.2.1)) ((r1.1,0))).bind fun r18=>some (r18.1,([]:List (Int×Str)),r18.2.2.1,r18.2.2.2.1,r18.2.2.2.2.1,r18.2.2.2.2.2.1,r18.2.2.2.2.2.2.1,r18.2.2.2.2.2.2.2.1,r18.2.2.2.2.2.2.2.2.1,r18.2.2.2.2.2.2.2.2.2.1,r18.2.2.2.2.2.2.2.2.2.2.1,r18.2.2.2.2.2.2.2.2.2.2.2,0) else none
@[simp] def g24_O:(List Str×(List (Int×Str))×Int×Bool×Int×Int×Int×Int×Int×Int×(List (Int×Str))×(List (Int×Str))×Int)→TV×List Blk:=fun r=>((.int .i64 r.2.2.2.2.2.2.2.2.2.2.2.2),[(.live 12 [[(ow 2 r.1.length),(ow 3 r.2.1.length),(.int .i64 r.2.2.1),(.bool r.2.2.2.1),(.int .i64 r.2.2.2.2.1),(.int .i64 r.2.2.2.2.2.1),(.int .i64 r.2.2.2.2.2.2.1),(.int .i64 r.2.2.2.2.2.2.2.1),(.int .i64 r.2.2.2.2.2.2.2.2.1),(.int .i64 r.2.2.2.2.2.2.2.2.2.1),(ow 1 r.2.2.2.2.2.2.2.2.2.2.2.1.length),(ow 4 r.2.2.2.2.2.2.2.2.2.2.1.length)]]),(ob 2 r.2.2.2.2.2.2.2.2.2.2.2.1),(ob 1 r.1),(ob 2 r.2.1),(ob 2 r.2.2.2.2.2.2.2.2.2.2.1)])
abbrev g24_T:=K1
def g24_E (a:g24_T):List TV:=[(.ptr 0 0 0)]
def g24_B (a:g24_T):List Blk:=[(.live 12 [[(ow 2 a.1.1.length),(ow 3 a.1.2.1.length),(.int .i64 a.1.2.2.1),(.bool a.1.2.2.2),(.int .i64 a.2.1.1),(.int .i64 a.2.1.2.1),(.int .i64 a.2.1.2.2.1),(.int .i64 a.2.1.2.2.2),(.int .i64 a.2.2.1),(.int .i64 a.2.2.2.1),(ow 1 a.2.2.2.2.1.length),(ow 4 a.2.2.2.2.2.length)]]),(ob 2 a.2.2.2.2.1),(ob 1 a.1.1),(ob 2 a.1.2.1),(ob 2 a.2.2.2.2.2)]
theorem g24_run (a1:K1) :callFn (X g24_S) g24_tf (g24_E a1) (g24_B a1)=(spec_l09Barrier_o36 a1).map g24_O:=by
  rw [callFn_eq]
  simp (maxSteps:=2000000) (maxDischargeDepth:=8) -implicitDefEqProofs [g24_tf,spec_l09Barrier_o36,g24_E,g24_B] <;> (try simp only [map_to_bind,some_elim,g24_O])
def g24_r:MRule:=RmO g24_E g24_B (fun a=>(spec_l09Barrier_o36 a).bind fun r=>if r.2.2.2.2.2.2.2.2.2.2.2.1.length=a.2.2.2.2.1.length then some (r.1,r.2.1,r.2.2.1,r.2.2.2.1,r.2.2.2.2.1,r.2.2.2.2.2.1,r.2.2.2.2.2.2.1,r.2.2.2.2.2.2.2.1,r.2.2.2.2.2.2.2.2.1,r.2.2.2.2.2.2.2.2.2.1,r.2.2.2.2.2.2.2.2.2.2.1,(fixLen a.2.2.2.2.1 r.2.2.2.2.2.2.2.2.2.2.2.1),r.2.2.2.2.2.2.2.2.2.2.2.2) else none) g24_O
theorem g24_ok0:MRuleOk Tryz.prog 141 2 (RmO g24_E g24_B (fun a=>spec_l09Barrier_o36 a) g24_O):=ok_rmo (S:=g24_S) (tf:=g24_tf) (SysOk.on trivial ⟨g34_ok,trivial⟩) (trE_ok (ks:=[[0,3],[20]]) Tryz.func141 (by kernel_rfl)) (by rfl) (fun _=>by simp [g24_B]) (fun _=>by simp) fun a=>g24_run a
theorem g24_ok:MRuleOk Tryz.prog 141 2 g24_r:=g24_ok0.weak fun a r hr=>by
  simp only [Option.bind_eq_some_iff] at hr
  obtain ⟨x,h1,h2⟩:=hr
  split at h2
  · rename_i hc
    simp only [Option.some.injEq] at h2
    rw [h1,← h2]
    simp [fixLen,hc]
  · cases h2
@[simp] theorem g24_app (y0:List Str)(y1:List (Int×Str))(y2 y3 y4 y5 y6 y7 y8 y9)(y10:List (Int×Str))(y11:List (Int×Str)){n1:Nat}(h1:n1=y0.length){n2:Nat}(h2:n2=y1.length){n3:Nat}(h3:n3=y10.length){n4:Nat}(h4:n4=y11.length):g24_r [(.ptr 0 0 0)] [(.live 12 [[(ow 2 n1),(ow 3 n2),(.int .i64 y2),(.bool y3),(.int .i64 y4),(.int .i64 y5),(.int .i64 y6),(.int .i64 y7),(.int .i64 y8),(.int .i64 y9),(ow 1 n3),(ow 4 n4)]]),(ob 2 y10),(ob 1 y0),(ob 2 y1),(ob 2 y11)]=((spec_l09Barrier_o36 (((y0,y1,y2,y3),(y4,y5,y6,y7),y8,y9,y10,y11))).bind fun r=>if r.2.2.2.2.2.2.2.2.2.2.2.1.length=y10.length then some (r.1,r.2.1,r.2.2.1,r.2.2.2.1,r.2.2.2.2.1,r.2.2.2.2.2.1,r.2.2.2.2.2.2.1,r.2.2.2.2.2.2.2.1,r.2.2.2.2.2.2.2.2.1,r.2.2.2.2.2.2.2.2.2.1,r.2.2.2.2.2.2.2.2.2.2.1,(fixLen y10 r.2.2.2.2.2.2.2.2.2.2.2.1),r.2.2.2.2.2.2.2.2.2.2.2.2) else none).map g24_O:=by
  subst h1 h2 h3 h4
  exact RmO_app (enc:=g24_E) (encB:=g24_B) (by intro a b h h2;simp [g24_E,g24_B,Prod.ext_iff] at h h2 ⊢;simp [h,h2]) (((y0,y1,y2,y3),(y4,y5,y6,y7),y8,y9,y10,y11))
/-! spec.l09Write -/
def g35_tf:TFn:=⟨(sq [mk 6 (ki 0)] [0,1,2] (.seq (sq [mo 7 0,nk 8 7,fa 9 3 8,ld 10 9,mo 11 10,⟨(some 12),(some (11,false)),(.mv (.t 0))⟩,⟨(some 13),(some (11,false)),(.nilchk (.t 12))⟩,⟨(some 14),(some (11,false)),(.faddr 2 (.t 13))⟩,⟨(some 15),(some (11,false)),(.load none (.t 14))⟩,⟨(some 16),(some (11,false)),(.bin .num .eql (.t 15) (ki 0))⟩,pk 17 (.t 11) (kb true) (.t 16)] [0,1,2,17] (.cond (.t 17) (sq [mo 18 0,nk 19 18,fa 20 3 19,⟨none,none,(.store 1 (.t 20) (kb true))⟩] [] (.seq (.ops [mk 6 (ki 13)]) (.keep (kp [(6,0)] [(0,2),(1,1),(2,1),(3,1),(4,1)] 2) .ret))) .skip)) (.trim [0,1,2] (.seq (sq [mo 21 0,nk 22 21,fa 23 1 22,ld 24 23,le 25 24,bn 26 .geq (.t 25) (ki 600)] [0,1,2,26] (.cond (.t 26) (.seq (.ops [mk 6 (ki 5)]) (.keep (kp [(6,0)] [(0,2),(1,1),(2,1),(3,1),(4,1)] 2) .ret)) .skip)) (.trim [0,1,2] (sq [mo 27 0,oo 28 (.callM 159 0 [0,1,2,3,4] [.t 27])] [0,1,2] (sq [mo 29 0,mo 30 0,nk 31 30,fa 32 1 31,ld 33 32,mo 34 1,mo 35 2,oo 36 (.build [(.int .i64 0),(.str [])] [(0,1,(.t 34)),(1,1,(.t 35))]),oo 37 (.bslice [(.int .i64 0),(.str [])] 1 [(0,(.t 36))]),oo 38 (.append 111 2 24 (.t 33) (.t 37)),nk 39 29,fa 40 1 39,⟨none,none,(.store 1 (.t 40) (.t 38))⟩] [] (.seq (.ops [mk 6 (ki 0)]) (.keep (kp [(6,0)] [(0,2),(1,1),(5,1),(9,1),(7,1)] 2) .ret))))))))),[.t 6]⟩
abbrev g35_S:=Sys.on [] [((159,0),(2,g34_r))]
def spec_l09Write_o87 (a1:K1) (a2:Int) (a3:Str):Option (List Str×(List (Int×Str))×Int×Bool×Int×Int×Int×Int×Int×Int×(List (Int×Str))×(List (Int×Str))×Int):=if a1.1.2.2.2=true then some (a1.1.1,a1.1.2.1,a1.1.2.2.1,true,a1.2.1.1,a1.2.1.2.1,a1.2.1.2.2.1,a1.2.1.2.2.2,a1.2.2.1,a1.2.2.2.1,a1.2.2.2.2.2,a1.2.2.2.2.1,13) else if a1.1.2.2.1=0 then some (a1.1.1,a1.1.2.1,a1.1.2.2.1,true,a1.2.1.1,a1.2.1.2.1,a1.2.1.2.2.1,a1.2.1.2.2.2,a1.2.2.1,a1.2.2.2.1,a1.2.2.2.2.2,a1.2.2.2.2.1,13) else if ((a1.1.2.1.length:Nat):Int) ≥ 600 then some (a1.1.1,a1.1.2.1,a1.1.2.2.1,a1.1.2.2.2,a1.2.1.1,a1.2.1.2.1,a1.2.1.2.2.1,a1.2.1.2.2.2,a1.2.2.1,a1.2.2.2.1,a1.2.2.2.2.2,a1.2.2.2.2.1,5) else (spec_l09Power_o36 a1).bind fun r1=>if r1.2.2.2.2.2.2.2.2.2.2.2.1.length=a1.2.2.2.2.1.length then (appL 24 r1.2.1 ((lit [(a2,a3)]:List (Int×Str)))).bind fun l2=>some (r1.1,l2,r1.2.2.1,r1.2.2.2.1,r1.2.2.2.2.1,r1.2.2.2.2.2.1,r1.2.2.2.2.2.2.1,r1.2.2.2.2.2.2.2.1,r1.2.2.2.2.2.2.2.2.1,r1.2.2.2.2.2.2.2.2.2.1,r1.2.2.2.2.2.2.2.2.2.2.1,(fixLen a1.2.2.2.2.1 r1.2.2.2.2.2.2.2.2.2.2.2.1),0) else none
@[simp] def g35_O:(List Str×(List (Int×Str))×Int×Bool×Int×Int×Int×Int×Int×Int×(List (Int×Str))×(List (Int×Str))×Int)→TV×List Blk:=fun r=>((.int .i64 r.2.2.2.2.2.2.2.2.2.2.2.2),[(.live 12 [[(ow 2 r.1.length),(ow 3 r.2.1.length),(.int .i64 r.2.2.1),(.bool r.2.2.2.1),(.int .i64 r.2.2.2.2.1),(.int .i64 r.2.2.2.2.2.1),(.int .i64 r.2.2.2.2.2.2.1),(.int .i64 r.2.2.2.2.2.2.2.1),(.int .i64 r.2.2.2.2.2.2.2.2.1),(.int .i64 r.2.2.2.2.2.2.2.2.2.1),(ow 1 r.2.2.2.2.2.2.2.2.2.2.2.1.length),(ow 4 r.2.2.2.2.2.2.2.2.2.2.1.length)]]),(ob 2 r.2.2.2.2.2.2.2.2.2.2.2.1),(ob 1 r.1),(ob 2 r.2.1),(ob 2 r.2.2.2.2.2.2.2.2.2.2.1)])
abbrev g35_T:=K1×Int×Str
def g35_E (a:g35_T):List TV:=[(.ptr 0 0 0),(.int .i64 a.2.1),(.str a.2.2)]
def g35_B (a:g35_T):List Blk:=[(.live 12 [[(ow 2 a.1.1.1.length),(ow 3 a.1.1.2.1.length),(.int .i64 a.1.1.2.2.1),(.bool a.1.1.2.2.2),(.int .i64 a.1.2.1.1),(.int .i64 a.1.2.1.2.1),(.int .i64 a.1.2.1.2.2.1),(.int .i64 a.1.2.1.2.2.2),(.int .i64 a.1.2.2.1),(.int .i64 a.1.2.2.2.1),(ow 1 a.1.2.2.2.2.1.length),(ow 4 a.1.2.2.2.2.2.length)]]),(ob 2 a.1.2.2.2.2.1),(ob 1 a.1.1.1),(ob 2 a.1.1.2.1),(ob 2 a.1.2.2.2.2.2)]
theorem g35_run (a1:K1) (a2:Int) (a3:Str) :callFn (X g35_S) g35_tf (g35_E (a1,a2,a3)) (g35_B (a1,a2,a3))=(spec_l09Write_o87 a1 a2 a3).map g35_O:=by
  rw [callFn_eq]
  simp (maxSteps:=2000000) (maxDischargeDepth:=8) -implicitDefEqProofs [g35_tf,spec_l09Write_o87,g35_E,g35_B,bslV_lit (α:=Int×Str) (zs:=[(.int .i64 0),(.str [])])] <;> (try simp only [map_to_bind,some_elim,g35_O])
def g35_r:MRule:=RmO g35_E g35_B (fun a=>(spec_l09Write_o87 a.1 a.2.1 a.2.2).bind fun r=>if r.2.2.2.2.2.2.2.2.2.2.2.1.length=a.1.2.2.2.2.1.length then some (r.1,r.2.1,r.2.2.1,r.2.2.2.1,r.2.2.2.2.1,r.2.2.2.2.2.1,r.2.2.2.2.2.2.1,r.2.2.2.2.2.2.2.1,r.2.2.2.2.2.2.2.2.1,r.2.2.2.2.2.2.2.2.2.1,r.2.2.2.2.2.2.2.2.2.2.1,(fixLen a.1.2.2.2.2.1 r.2.2.2.2.2.2.2.2.2.2.2.1),r.2.2.2.2.2.2.2.2.2.2.2.2) else none) g35_O
theorem g35_ok0:MRuleOk Tryz.prog 156 2 (RmO g35_E g35_B (fun a=>spec_l09Write_o87 a.1 a.2.1 a.2.2) g35_O):=ok_rmo (S:=g35_S) (tf:=g35_tf) (SysOk.on trivial ⟨g34_ok,trivial⟩) (trE_ok (ks:=[]) Tryz.func156 (by kernel_rfl)) (by rfl) (fun _=>by simp [g35_B]) (fun _=>by simp) fun a=>g35_run a.1 a.2.1 a.2.2
theorem g35_ok:MRuleOk Tryz.prog 156 2 g35_r:=g35_ok0.weak fun a r hr=>by
  simp only [Option.bind_eq_some_iff] at hr
  obtain ⟨x,h1,h2⟩:=hr
  split at h2
  · rename_i hc
    simp only [Option.some.injEq] at h2
    rw [h1,← h2]
    simp [fixLen,hc]
  · cases h2
@[simp] theorem g35_app (y0:List Str)(y1:List (Int×Str))(y2 y3 y4 y5 y6 y7 y8 y9)(y10:List (Int×Str))(y11:List (Int×Str))(y12 y13){n1:Nat}(h1:n1=y0.length){n2:Nat}(h2:n2=y1.length){n3:Nat}(h3:n3=y10.length){n4:Nat}(h4:n4=y11.length):g35_r [(.ptr 0 0 0),(.int .i64 y12),(.str y13)] [(.live 12 [[(ow 2 n1),(ow 3 n2),(.int .i64 y2),(.bool y3),(.int .i64 y4),(.int .i64 y5),(.int .i64 y6),(.int .i64 y7),(.int .i64 y8),(.int .i64 y9),(ow 1 n3),(ow 4 n4)]]),(ob 2 y10),(ob 1 y0),(ob 2 y1),(ob 2 y11)]=((spec_l09Write_o87 (((y0,y1,y2,y3),(y4,y5,y6,y7),y8,y9,y10,y11)) y12 y13).bind fun r=>if r.2.2.2.2.2.2.2.2.2.2.2.1.length=y10.length then some (r.1,r.2.1,r.2.2.1,r.2.2.2.1,r.2.2.2.2.1,r.2.2.2.2.2.1,r.2.2.2.2.2.2.1,r.2.2.2.2.2.2.2.1,r.2.2.2.2.2.2.2.2.1,r.2.2.2.2.2.2.2.2.2.1,r.2.2.2.2.2.2.2.2.2.2.1,(fixLen y10 r.2.2.2.2.2.2.2.2.2.2.2.1),r.2.2.2.2.2.2.2.2.2.2.2.2) else none).map g35_O:=by
  subst h1 h2 h3 h4
  exact RmO_app (enc:=g35_E) (encB:=g35_B) (by intro a b h h2;simp [g35_E,g35_B,Prod.ext_iff] at h h2 ⊢;simp [h,h2]) (((y0,y1,y2,y3),(y4,y5,y6,y7),y8,y9,y10,y11),y12,y13)
/-! spec.l12Place -/
def g36l1_cb:TC:=(.seq (sq [mo 13 6,mo 14 1,le 15 14,bn 16 .lss (.t 13) (.t 15)] [0,1,6,16] (.cond (.t 16) .skip (.keep (kp [(0,0)] [(0,2),(1,1),(2,1),(3,1),(4,1)] 2) (.exit 0)))) (.trim [0,1,6] (.seq (.block 1 (.seq (.draw [([],mo 19 0),([],mo 20 1),([],mo 21 6),([1,2],ia 22 2 20 21),([1,2,3],fa 23 0 22),([1,2,3,4],ld 24 23),([],mo 25 1),([],mo 26 6),([6,7],ia 27 2 25 26),([6,7,8],fa 28 1 27),([6,7,8,9],ld 29 28)] [oo 30 (.callM 156 0 [0,1,2,3,4] [.t 19,.t 24,.t 29]),mo 7 30]) (.trim [0,1,6,7] (sq [mo 31 7,bn 32 .neq (.t 31) (ki 0)] [0,1,6,7,32] (.cond (.t 32) (.seq (.ops [mo 33 7,mo 4 33]) (.keep (kp [(4,0)] [(0,2),(1,1),(5,1),(6,1),(7,1)] 2) .ret)) .skip))))) (.trim [0,1,6] (.after (.ops [mo 17 6,bn 18 .add (.t 17) (ki 1),mo 6 18]) (kp [(0,0),(1,0),(6,0)] [(0,2),(1,1),(5,1),(6,1),(7,1)] 2))))))
def g36l1_c:TC:=.loop [0,1,6] g36l1_cb
def g36_tf:TFn:=⟨(sq [mk 4 (ki 0)] [0,1] (.seq (sq [mo 8 0,oo 9 (.callM 141 0 [0,1,2,3,4] [.t 8]),mo 5 9] [0,1,5] (sq [mo 10 5,bn 11 .neq (.t 10) (ki 0)] [0,1,5,11] (.cond (.t 11) (.seq (.ops [mo 12 5,mo 4 12]) (.keep (kp [(4,0)] [(0,2),(1,1),(5,1),(6,1),(7,1)] 2) .ret)) .skip))) (.trim [0,1] (.seq (sq [mk 6 (ki 0)] [0,1,6] (.block 0 (.keep (kp [(0,0),(1,0),(6,0)] [(0,2),(1,1),(5,1),(6,1),(7,1)] 2) g36l1_c))) (.trim [0] (.seq (.ops [mo 34 0,oo 35 (.callM 141 0 [0,1,2,3,4] [.t 34]),mo 4 35]) (.keep (kp [(4,0)] [(0,2),(1,1),(5,1),(6,1),(7,1)] 2) .ret))))))),[.t 4]⟩
abbrev g36_S:=Sys.on [] [((141,0),(2,g24_r)),((156,0),(2,g35_r))]
@[reducible,simp] def g36l1_F:((List Str×(List (Int×Str))×Int×Bool×Int×Int×Int×Int×Int×Int×(List (Int×Str))×(List (Int×Str))) ⊕ (List Str×(List (Int×Str))×Int×Bool×Int×Int×Int×Int×Int×Int×(List (Int×Str))×(List (Int×Str))×Int))→Out:=(Sum.elim (fun t=>(.ext 0,[(0,(.ptr 0 0 0))],[(.live 12 [[(ow 2 t.1.length),(ow 3 t.2.1.length),(.int .i64 t.2.2.1),(.bool t.2.2.2.1),(.int .i64 t.2.2.2.2.1),(.int .i64 t.2.2.2.2.2.1),(.int .i64 t.2.2.2.2.2.2.1),(.int .i64 t.2.2.2.2.2.2.2.1),(.int .i64 t.2.2.2.2.2.2.2.2.1),(.int .i64 t.2.2.2.2.2.2.2.2.2.1),(ow 1 t.2.2.2.2.2.2.2.2.2.2.2.length),(ow 4 t.2.2.2.2.2.2.2.2.2.2.1.length)]]),(ob 2 t.2.2.2.2.2.2.2.2.2.2.2),(ob 1 t.1),(ob 2 t.2.1),(ob 2 t.2.2.2.2.2.2.2.2.2.2.1)])) (fun t=>(.ret,[(4,(.int .i64 t.2.2.2.2.2.2.2.2.2.2.2.2))],[(.live 12 [[(ow 2 t.1.length),(ow 3 t.2.1.length),(.int .i64 t.2.2.1),(.bool t.2.2.2.1),(.int .i64 t.2.2.2.2.1),(.int .i64 t.2.2.2.2.2.1),(.int .i64 t.2.2.2.2.2.2.1),(.int .i64 t.2.2.2.2.2.2.2.1),(.int .i64 t.2.2.2.2.2.2.2.2.1),(.int .i64 t.2.2.2.2.2.2.2.2.2.1),(ow 1 t.2.2.2.2.2.2.2.2.2.2.2.1.length),(ow 4 t.2.2.2.2.2.2.2.2.2.2.1.length)]]),(ob 2 t.2.2.2.2.2.2.2.2.2.2.2.1),(ob 1 t.1),(ob 2 t.2.1),(ob 2 t.2.2.2.2.2.2.2.2.2.2.1)])))
def spec_l12Place_oba_l1_b (v2:List Str) (v3:List (Int×Str)) (v4:Int) (v5:Bool) (v6:Int) (v7:Int) (v8:Int) (v9:Int) (v10:Int) (v11:Int) (v12:List (Int×Str)) (v13:List (Int×Str)) (v14:Int):Option ((List Str×(List (Int×Str))×Int×Bool×Int×Int×Int×Int×Int×Int×(List (Int×Str))×(List (Int×Str))×Int) ⊕ ((List Str×(List (Int×Str))×Int×Bool×Int×Int×Int×Int×Int×Int×(List (Int×Str))×(List (Int×Str))) ⊕ (List Str×(List (Int×Str))×Int×Bool×Int×Int×Int×Int×Int×Int×(List (Int×Str))×(List (Int×Str))×Int))):=if v14 < ((v13.length:Nat):Int) then if 0≤v14∧v14 < ((v13.length:Nat):Int) then (v13[(v14).toNat]?).bind fun x15=>if 0≤v14∧v14 < ((v13.length:Nat):Int) then (v13[(v14).toNat]?).bind fun x16=>(spec_l09Write_o87 (((v2,v3,v4,v5),(v6,v7,v8,v9),v10,v11,v13,v12)) x15.1 x16.2).bind fun r17=>if r17.2.2.2.2.2.2.2.2.2.2.2.1.length=v13.length then if ¬(r17.2.2.2.2.2.2.2.2.2.2.2.2=0) then some (.inr (.inr (r17.1,r17.2.1,r17.2.2.1,r17.2.2.2.1,r17.2.2.2.2.1,r17.2.2.2.2.2.1,r17.2.2.2.2.2.2.1,r17.2.2.2.2.2.2.2.1,r17.2.2.2.2.2.2.2.2.1,r17.2.2.2.2.2.2.2.2.2.1,r17.2.2.2.2.2.2.2.2.2.2.1,(fixLen v13 r17.2.2.2.2.2.2.2.2.2.2.2.1),r17.2.2.2.2.2.2.2.2.2.2.2.2))) else some (.inl (r17.1,r17.2.1,r17.2.2.1,r17.2.2.2.1,r17.2.2.2.2.1,r17.2.2.2.2.2.1,r17.2.2.2.2.2.2.1,r17.2.2.2.2.2.2.2.1,r17.2.2.2.2.2.2.2.2.1,r17.2.2.2.2.2.2.2.2.2.1,r17.2.2.2.2.2.2.2.2.2.2.1,(fixLen v13 r17.2.2.2.2.2.2.2.2.2.2.2.1),(IntKind.i64.wrap (v14+1)))) else none else none else none else some (.inr (.inl (v2,v3,v4,v5,v6,v7,v8,v9,v10,v11,v12,v13)))
theorem g36l1_b_eq  (v2:List Str) (v3:List (Int×Str)) (v4:Int) (v5:Bool) (v6:Int) (v7:Int) (v8:Int) (v9:Int) (v10:Int) (v11:Int) (v12:List (Int×Str)) (v13:List (Int×Str)) (v14:Int):X g36_S g36l1_cb (keepEnv [0,1,6] [(0,(.ptr 0 0 0)),(1,(ow 1 v13.length)),(6,(.int .i64 v14))]) [(.live 12 [[(ow 2 v2.length),(ow 3 v3.length),(.int .i64 v4),(.bool v5),(.int .i64 v6),(.int .i64 v7),(.int .i64 v8),(.int .i64 v9),(.int .i64 v10),(.int .i64 v11),(ow 1 v13.length),(ow 4 v12.length)]]),(ob 2 v13),(ob 1 v2),(ob 2 v3),(ob 2 v12)]=(spec_l12Place_oba_l1_b v2 v3 v4 v5 v6 v7 v8 v9 v10 v11 v12 v13 v14).map (Sum.elim (fun s=>(TX.nrm,[(0,(.ptr 0 0 0)),(1,(ow 1 s.2.2.2.2.2.2.2.2.2.2.2.1.length)),(6,(.int .i64 s.2.2.2.2.2.2.2.2.2.2.2.2))],[(.live 12 [[(ow 2 s.1.length),(ow 3 s.2.1.length),(.int .i64 s.2.2.1),(.bool s.2.2.2.1),(.int .i64 s.2.2.2.2.1),(.int .i64 s.2.2.2.2.2.1),(.int .i64 s.2.2.2.2.2.2.1),(.int .i64 s.2.2.2.2.2.2.2.1),(.int .i64 s.2.2.2.2.2.2.2.2.1),(.int .i64 s.2.2.2.2.2.2.2.2.2.1),(ow 1 s.2.2.2.2.2.2.2.2.2.2.2.1.length),(ow 4 s.2.2.2.2.2.2.2.2.2.2.1.length)]]),(ob 2 s.2.2.2.2.2.2.2.2.2.2.2.1),(ob 1 s.1),(ob 2 s.2.1),(ob 2 s.2.2.2.2.2.2.2.2.2.2.1)])) g36l1_F):=by
  simp (maxSteps:=2000000) (maxDischargeDepth:=8) -implicitDefEqProofs [g36l1_cb,spec_l12Place_oba_l1_b] <;> (try simp only [map_to_bind,some_elim,g36l1_F])
def spec_l12Place_oba_l1  (s:List Str×(List (Int×Str))×Int×Bool×Int×Int×Int×Int×Int×Int×(List (Int×Str))×(List (Int×Str))×Int):Option ((List Str×(List (Int×Str))×Int×Bool×Int×Int×Int×Int×Int×Int×(List (Int×Str))×(List (Int×Str))) ⊕ (List Str×(List (Int×Str))×Int×Bool×Int×Int×Int×Int×Int×Int×(List (Int×Str))×(List (Int×Str))×Int)):=loopO (fun s=>spec_l12Place_oba_l1_b  s.1 s.2.1 s.2.2.1 s.2.2.2.1 s.2.2.2.2.1 s.2.2.2.2.2.1 s.2.2.2.2.2.2.1 s.2.2.2.2.2.2.2.1 s.2.2.2.2.2.2.2.2.1 s.2.2.2.2.2.2.2.2.2.1 s.2.2.2.2.2.2.2.2.2.2.1 s.2.2.2.2.2.2.2.2.2.2.2.1 s.2.2.2.2.2.2.2.2.2.2.2.2) s
@[simp] theorem g36l1_eq (y0:List Str)(y1:List (Int×Str))(y2 y3 y4 y5 y6 y7 y8 y9)(y10:List (Int×Str))(y11:List (Int×Str))(y12){n1:Nat}(h1:n1=y11.length){n2:Nat}(h2:n2=y0.length){n3:Nat}(h3:n3=y1.length){n4:Nat}(h4:n4=y11.length){n5:Nat}(h5:n5=y10.length):X g36_S g36l1_c [(0,(.ptr 0 0 0)),(1,(ow 1 n1)),(6,(.int .i64 y12))] [(.live 12 [[(ow 2 n2),(ow 3 n3),(.int .i64 y2),(.bool y3),(.int .i64 y4),(.int .i64 y5),(.int .i64 y6),(.int .i64 y7),(.int .i64 y8),(.int .i64 y9),(ow 1 n4),(ow 4 n5)]]),(ob 2 y11),(ob 1 y0),(ob 2 y1),(ob 2 y10)]=(spec_l12Place_oba_l1  (y0,y1,y2,y3,y4,y5,y6,y7,y8,y9,y10,y11,y12)).map g36l1_F:=by
  subst h1 h2 h3 h4 h5
  exact loop_X _ _ _ _ (by intro r;first | (simp;done) | (rcases r with r | r <;> simp;done) | (rcases r with r | r | r <;> simp;done) | (rcases r with r | r | r | r <;> simp)) (fun s=>g36l1_b_eq   s.1 s.2.1 s.2.2.1 s.2.2.2.1 s.2.2.2.2.1 s.2.2.2.2.2.1 s.2.2.2.2.2.2.1 s.2.2.2.2.2.2.2.1 s.2.2.2.2.2.2.2.2.1 s.2.2.2.2.2.2.2.2.2.1 s.2.2.2.2.2.2.2.2.2.2.1 s.2.2.2.2.2.2.2.2.2.2.2.1 s.2.2.2.2.2.2.2.2.2.2.2.2) (y0,y1,y2,y3,y4,y5,y6,y7,y8,y9,y10,y11,y12)
def spec_l12Place_oba (a1:K1):Option (List Str×(List (Int×Str))×Int×Bool×Int×Int×Int×Int×Int×Int×(List (Int×Str))×(List (Int×Str))×Int):=(spec_l09Barrier_o36 a1).bind fun r1=>if r1.2.2.2.2.2.2.2.2.2.2.2.1.length=a1.2.2.2.2.1.length then if ¬(r1.2.2.2.2.2.2.2.2.2.2.2.2=0) then some (r1.1,r1.2.1,r1.2.2.1,r1.2.2.2.1,r1.2.2.2.2.1,r1.2.2.2.2.2.1,r1.2.2.2.2.2.2.1,r1.2.2.2.2.2.2.2.1,r1.2.2.2.2.2.2.2.2.1,r1.2.2.2.2.2.2.2.2.2.1,r1.2.2.2.2.2.2.2.2.2.2.1,(fixLen a1.2.2.2.2.1 r1.2.2.2.2.2.2.2.2.2.2.2.1),r1.2.2.2.2.2.2.2.2.2.2.2.2) else (spec_l12Place_oba_l1 ((r1.1,r1.2.1,r1.2.2.1,r1.2.2.2.1,r1.2.2.2.2.1,r1.2.2.2.2.2.1,r1.2.2.2.2.2.2.1,r1.2.2.2.2.2.2.2.1,r1.2.2.2.2.2.2.2.2.1,r1.2.2.2.2.2.2.2.2.2.1,r1.2.2.2.2.2.2.2.2.2.2.1,(fixLen a1.2.2.2.2.1 r1.2.2.2.2.2.2.2.2.2.2.2.1),0))).bind fun r18=>Sum.elim (fun u19=>(spec_l09Barrier_o36 (((u19.1,u19.2.1,u19.2.2.1,u19.2.2.2.1),(u19.2.2.2.2.1,u19.2.2.2.2.2.1,u19.2.2.2.2.2.2.1,u19.2.2.2.2.2.2.2.1),u19.2.2.2.2.2.2.2.2.1,u19.2.2.2.2.2.2.2.2.2.1,u19.2.2.2.2.2.2.2.2.2.2.2,u19.2.2.2.2.2.2.2.2.2.2.1))).bind fun r21=>if r21.2.2.2.2.2.2.2.2.2.2.2.1.length=u19.2.2.2.2.2.2.2.2.2.2.2.length then some (r21.1,r21.2.1,r21.2.2.1,r21.2.2.2.1,r21.2.2.2.2.1,r21.2.2.2.2.2.1,r21.2.2.2.2.2.2.1,r21.2.2.2.2.2.2.2.1,r21.2.2.2.2.2.2.2.2.1,r21.2.2.2.2.2.2.2.2.2.1,r21.2.2.2.2.2.2.2.2.2.2.1,(fixLen u19.2.2.2.2.2.2.2.2.2.2.2 r21.2.2.2.2.2.2.2.2.2.2.2.1),r21.2.2.2.2.2.2.2.2.2.2.2.2) else none) (fun u20=>some (u20.1,u20.2.1,u20.2.2.1,u20.2.2.2.1,u20.2.2.2.2.1,u20.2.2.2.2.2.1,u20.2.2.2.2.2.2.1,u20.2.2.2.2.2.2.2.1,u20.2.2.2.2.2.2.2.2.1,u20.2.2.2.2.2.2.2.2.2.1,u20.2.2.2.2.2.2.2.2.2.2.1,u20.2.2.2.2.2.2.2.2.2.2.2.1,u20.2.2.2.2.2.2.2.2.2.2.2.2)) r18 else none
@[simp] def g36_O:(List Str×(List (Int×Str))×Int×Bool×Int×Int×Int×Int×Int×Int×(List (Int×Str))×(List (Int×Str))×Int)→TV×List Blk:=fun r=>((.int .i64 r.2.2.2.2.2.2.2.2.2.2.2.2),[(.live 12 [[(ow 2 r.1.length),(ow 3 r.2.1.length),(.int .i64 r.2.2.1),(.bool r.2.2.2.1),(.int .i64 r.2.2.2.2.1),(.int .i64 r.2.2.2.2.2.1),(.int .i64 r.2.2.2.2.2.2.1),(.int .i64 r.2.2.2.2.2.2.2.1),(.int .i64 r.2.2.2.2.2.2.2.2.1),(.int .i64 r.2.2.2.2.2.2.2.2.2.1),(ow 1 r.2.2.2.2.2.2.2.2.2.2.2.1.length),(ow 4 r.2.2.2.2.2.2.2.2.2.2.1.length)]]),(ob 2 r.2.2.2.2.2.2.2.2.2.2.2.1),(ob 1 r.1),(ob 2 r.2.1),(ob 2 r.2.2.2.2.2.2.2.2.2.2.1)])
abbrev g36_T:=K1
def g36_E (a:g36_T):List TV:=[(.ptr 0 0 0),(ow 1 a.2.2.2.2.1.length)]
def g36_B (a:g36_T):List Blk:=[(.live 12 [[(ow 2 a.1.1.length),(ow 3 a.1.2.1.length),(.int .i64 a.1.2.2.1),(.bool a.1.2.2.2),(.int .i64 a.2.1.1),(.int .i64 a.2.1.2.1),(.int .i64 a.2.1.2.2.1),(.int .i64 a.2.1.2.2.2),(.int .i64 a.2.2.1),(.int .i64 a.2.2.2.1),(ow 1 a.2.2.2.2.1.length),(ow 4 a.2.2.2.2.2.length)]]),(ob 2 a.2.2.2.2.1),(ob 1 a.1.1),(ob 2 a.1.2.1),(ob 2 a.2.2.2.2.2)]
theorem g36_run (a1:K1) :callFn (X g36_S) g36_tf (g36_E a1) (g36_B a1)=(spec_l12Place_oba a1).map g36_O:=by
  rw [callFn_eq]
  simp (maxSteps:=2000000) (maxDischargeDepth:=8) -implicitDefEqProofs [g36_tf,spec_l12Place_oba,g36_E,g36_B] <;> (try simp only [map_to_bind,some_elim,g36_O])
def g36_r:MRule:=RmO g36_E g36_B (fun a=>(spec_l12Place_oba a).bind fun r=>if r.2.2.2.2.2.2.2.2.2.2.2.1.length=a.2.2.2.2.1.length then some (r.1,r.2.1,r.2.2.1,r.2.2.2.1,r.2.2.2.2.1,r.2.2.2.2.2.1,r.2.2.2.2.2.2.1,r.2.2.2.2.2.2.2.1,r.2.2.2.2.2.2.2.2.1,r.2.2.2.2.2.2.2.2.2.1,r.2.2.2.2.2.2.2.2.2.2.1,(fixLen a.2.2.2.2.1 r.2.2.2.2.2.2.2.2.2.2.2.1),r.2.2.2.2.2.2.2.2.2.2.2.2) else none) g36_O
theorem g36_ok0:MRuleOk Tryz.prog 136 2 (RmO g36_E g36_B (fun a=>spec_l12Place_oba a) g36_O):=ok_rmo (S:=g36_S) (tf:=g36_tf) (SysOk.on trivial ⟨g24_ok,g35_ok,trivial⟩) (trE_ok (ks:=[[0,1,6],[11]]) Tryz.func136 (by kernel_rfl)) (by rfl) (fun _=>by simp [g36_B]) (fun _=>by simp) fun a=>g36_run a
theorem g36_ok:MRuleOk Tryz.prog 136 2 g36_r:=g36_ok0.weak fun a r hr=>by
  simp only [Option.bind_eq_some_iff] at hr
  obtain ⟨x,h1,h2⟩:=hr
  split at h2
  · rename_i hc
    simp only [Option.some.injEq] at h2
    rw [h1,← h2]
    simp [fixLen,hc]
  · cases h2
@[simp] theorem g36_app (y0:List Str)(y1:List (Int×Str))(y2 y3 y4 y5 y6 y7 y8 y9)(y10:List (Int×Str))(y11:List (Int×Str)){n1:Nat}(h1:n1=y10.length){n2:Nat}(h2:n2=y0.length){n3:Nat}(h3:n3=y1.length){n4:Nat}(h4:n4=y10.length){n5:Nat}(h5:n5=y11.length):g36_r [(.ptr 0 0 0),(ow 1 n1)] [(.live 12 [[(ow 2 n2),(ow 3 n3),(.int .i64 y2),(.bool y3),(.int .i64 y4),(.int .i64 y5),(.int .i64 y6),(.int .i64 y7),(.int .i64 y8),(.int .i64 y9),(ow 1 n4),(ow 4 n5)]]),(ob 2 y10),(ob 1 y0),(ob 2 y1),(ob 2 y11)]=((spec_l12Place_oba (((y0,y1,y2,y3),(y4,y5,y6,y7),y8,y9,y10,y11))).bind fun r=>if r.2.2.2.2.2.2.2.2.2.2.2.1.length=y10.length then some (r.1,r.2.1,r.2.2.1,r.2.2.2.1,r.2.2.2.2.1,r.2.2.2.2.2.1,r.2.2.2.2.2.2.1,r.2.2.2.2.2.2.2.1,r.2.2.2.2.2.2.2.2.1,r.2.2.2.2.2.2.2.2.2.1,r.2.2.2.2.2.2.2.2.2.2.1,(fixLen y10 r.2.2.2.2.2.2.2.2.2.2.2.1),r.2.2.2.2.2.2.2.2.2.2.2.2) else none).map g36_O:=by
  subst h1 h2 h3 h4 h5
  exact RmO_app (enc:=g36_E) (encB:=g36_B) (by intro a b h h2;simp [g36_E,g36_B,Prod.ext_iff] at h h2 ⊢;simp [h,h2]) (((y0,y1,y2,y3),(y4,y5,y6,y7),y8,y9,y10,y11))
/-! spec.l09Power -/
def g37_tf:TFn:=⟨(sq [mk 2 (kb false)] [0] (.seq (sq [mo 3 0,nk 4 3,fa 5 3 4,ld 6 5,mo 7 6,⟨(some 8),(some (7,false)),(.mv (.t 0))⟩,⟨(some 9),(some (7,false)),(.nilchk (.t 8))⟩,⟨(some 10),(some (7,false)),(.faddr 2 (.t 9))⟩,⟨(some 11),(some (7,false)),(.load none (.t 10))⟩,⟨(some 12),(some (7,false)),(.bin .num .eql (.t 11) (ki 0))⟩,pk 13 (.t 7) (kb true) (.t 12)] [0,13] (.cond (.t 13) (sq [mo 14 0,nk 15 14,fa 16 3 15,⟨none,none,(.store 1 (.t 16) (kb true))⟩] [] (.seq (.ops [mk 2 (kb false)]) (.keep (kp [(2,0)] [(0,2),(1,1),(2,1),(3,1),(4,1)] 1) .ret))) .skip)) (.trim [0] (.seq (sq [mo 17 0,nk 18 17,fa 19 2 18,ld 20 19,bn 21 .gtr (.t 20) (ki 0)] [0,21] (.cond (.t 21) (.after (.ops [mo 22 0,nk 23 22,fa 24 2 23,ld 25 24,bn 26 .sub (.t 25) (ki 1),nk 27 22,fa 28 2 27,⟨none,none,(.store 1 (.t 28) (.t 26))⟩]) (kp [] [(0,2),(1,1),(2,1),(3,1),(4,1)] 1)) (.keep (kp [] [(0,2),(1,1),(2,1),(3,1),(4,1)] 1) .skip))) (.trim [] (.seq (.ops [mk 2 (kb true)]) (.keep (kp [(2,0)] [(0,2),(1,1),(2,1),(3,1),(4,1)] 1) .ret))))))),[.t 2]⟩
abbrev g37_S:=Sys.on [] []
def spec_l09Power_o19 (a1:K1):Option (K1×Bool):=if a1.1.2.2.2=true then some (((a1.1.1,a1.1.2.1,a1.1.2.2.1,true),a1.2.1,a1.2.2.1,a1.2.2.2.1,a1.2.2.2.2.1,a1.2.2.2.2.2),false) else if a1.1.2.2.1=0 then some (((a1.1.1,a1.1.2.1,a1.1.2.2.1,true),a1.2.1,a1.2.2.1,a1.2.2.2.1,a1.2.2.2.2.1,a1.2.2.2.2.2),false) else if a1.1.2.2.1 > 0 then some (((a1.1.1,a1.1.2.1,(IntKind.i64.wrap (a1.1.2.2.1 - 1)),a1.1.2.2.2),a1.2.1,a1.2.2.1,a1.2.2.2.1,a1.2.2.2.2.1,a1.2.2.2.2.2),true) else some (a1,true)
@[simp] def g37_O:(K1×Bool)→TV×List Blk:=fun r=>((.bool r.2),[(.live 12 [[(ow 1 r.1.1.1.length),(ow 2 r.1.1.2.1.length),(.int .i64 r.1.1.2.2.1),(.bool r.1.1.2.2.2),(.int .i64 r.1.2.1.1),(.int .i64 r.1.2.1.2.1),(.int .i64 r.1.2.1.2.2.1),(.int .i64 r.1.2.1.2.2.2),(.int .i64 r.1.2.2.1),(.int .i64 r.1.2.2.2.1),(ow 3 r.1.2.2.2.2.1.length),(ow 4 r.1.2.2.2.2.2.length)]]),(ob 1 r.1.1.1),(ob 2 r.1.1.2.1),(ob 2 r.1.2.2.2.2.1),(ob 2 r.1.2.2.2.2.2)])
abbrev g37_T:=K1
def g37_E (a:g37_T):List TV:=[(.ptr 0 0 0)]
def g37_B (a:g37_T):List Blk:=[(.live 12 [[(ow 1 a.1.1.length),(ow 2 a.1.2.1.length),(.int .i64 a.1.2.2.1),(.bool a.1.2.2.2),(.int .i64 a.2.1.1),(.int .i64 a.2.1.2.1),(.int .i64 a.2.1.2.2.1),(.int .i64 a.2.1.2.2.2),(.int .i64 a.2.2.1),(.int .i64 a.2.2.2.1),(ow 3 a.2.2.2.2.1.length),(ow 4 a.2.2.2.2.2.length)]]),(ob 1 a.1.1),(ob 2 a.1.2.1),(ob 2 a.2.2.2.2.1),(ob 2 a.2.2.2.2.2)]
theorem g37_run (a1:K1) :callFn (X g37_S) g37_tf (g37_E a1) (g37_B a1)=(spec_l09Power_o19 a1).map g37_O:=by
  rw [callFn_eq]
  simp (maxSteps:=2000000) (maxDischargeDepth:=8) -implicitDefEqProofs [g37_tf,spec_l09Power_o19,g37_E,g37_B] <;> (try simp only [map_to_bind,some_elim,g37_O])
def g37_r:MRule:=RmO g37_E g37_B (fun a=>spec_l09Power_o19 a) g37_O
theorem g37_ok:MRuleOk Tryz.prog 159 1 g37_r:=ok_rmo (S:=g37_S) (tf:=g37_tf) (SysOk.on trivial trivial) (trE_ok (ks:=[]) Tryz.func159 (by kernel_rfl)) (by rfl) (fun _=>by simp [g37_B]) (fun _=>by simp) fun a=>g37_run a
@[simp] theorem g37_app (y0:List Str)(y1:List (Int×Str))(y2 y3 y4 y5 y6 y7 y8 y9)(y10:List (Int×Str))(y11:List (Int×Str)){n1:Nat}(h1:n1=y0.length){n2:Nat}(h2:n2=y1.length){n3:Nat}(h3:n3=y10.length){n4:Nat}(h4:n4=y11.length):g37_r [(.ptr 0 0 0)] [(.live 12 [[(ow 1 n1),(ow 2 n2),(.int .i64 y2),(.bool y3),(.int .i64 y4),(.int .i64 y5),(.int .i64 y6),(.int .i64 y7),(.int .i64 y8),(.int .i64 y9),(ow 3 n3),(ow 4 n4)]]),(ob 1 y0),(ob 2 y1),(ob 2 y10),(ob 2 y11)]=(spec_l09Power_o19 (((y0,y1,y2,y3),(y4,y5,y6,y7),y8,y9,y10,y11))).map g37_O:=by
  subst h1 h2 h3 h4
  exact RmO_app (enc:=g37_E) (encB:=g37_B) (by intro a b h h2;simp [g37_E,g37_B,Prod.ext_iff] at h h2 ⊢;simp [h,h2]) (((y0,y1,y2,y3),(y4,y5,y6,y7),y8,y9,y10,y11))
/-! spec.l09Write -/
def g38_tf:TFn:=⟨(sq [mk 6 (ki 0)] [0,1,2] (.seq (sq [mo 7 0,nk 8 7,fa 9 3 8,ld 10 9,mo 11 10,⟨(some 12),(some (11,false)),(.mv (.t 0))⟩,⟨(some 13),(some (11,false)),(.nilchk (.t 12))⟩,⟨(some 14),(some (11,false)),(.faddr 2 (.t 13))⟩,⟨(some 15),(some (11,false)),(.load none (.t 14))⟩,⟨(some 16),(some (11,false)),(.bin .num .eql (.t 15) (ki 0))⟩,pk 17 (.t 11) (kb true) (.t 16)] [0,1,2,17] (.cond (.t 17) (sq [mo 18 0,nk 19 18,fa 20 3 19,⟨none,none,(.store 1 (.t 20) (kb true))⟩] [] (.seq (.ops [mk 6 (ki 13)]) (.keep (kp [(6,0)] [(0,2),(1,1),(2,1),(3,1),(4,1)] 1) .ret))) .skip)) (.trim [0,1,2] (.seq (sq [mo 21 0,nk 22 21,fa 23 1 22,ld 24 23,le 25 24,bn 26 .geq (.t 25) (ki 600)] [0,1,2,26] (.cond (.t 26) (.seq (.ops [mk 6 (ki 5)]) (.keep (kp [(6,0)] [(0,2),(1,1),(2,1),(3,1),(4,1)] 1) .ret)) .skip)) (.trim [0,1,2] (sq [mo 27 0,oo 28 (.callM 159 1 [0,1,2,3,4] [.t 27])] [0,1,2] (sq [mo 29 0,mo 30 0,nk 31 30,fa 32 1 31,ld 33 32,mo 34 1,mo 35 2,oo 36 (.build [(.int .i64 0),(.str [])] [(0,1,(.t 34)),(1,1,(.t 35))]),oo 37 (.bslice [(.int .i64 0),(.str [])] 1 [(0,(.t 36))]),oo 38 (.append 111 2 24 (.t 33) (.t 37)),nk 39 29,fa 40 1 39,⟨none,none,(.store 1 (.t 40) (.t 38))⟩] [] (.seq (.ops [mk 6 (ki 0)]) (.keep (kp [(6,0)] [(0,2),(5,1),(10,1),(7,1),(8,1)] 1) .ret))))))))),[.t 6]⟩
abbrev g38_S:=Sys.on [] [((159,1),(1,g37_r))]
def spec_l09Write_oc8 (a1:K1) (a2:Int) (a3:Str):Option (K1×Int):=if a1.1.2.2.2=true then some (((a1.1.1,a1.1.2.1,a1.1.2.2.1,true),a1.2.1,a1.2.2.1,a1.2.2.2.1,a1.2.2.2.2.1,a1.2.2.2.2.2),13) else if a1.1.2.2.1=0 then some (((a1.1.1,a1.1.2.1,a1.1.2.2.1,true),a1.2.1,a1.2.2.1,a1.2.2.2.1,a1.2.2.2.2.1,a1.2.2.2.2.2),13) else if ((a1.1.2.1.length:Nat):Int) ≥ 600 then some (a1,5) else (spec_l09Power_o19 a1).bind fun r1=>(appL 24 r1.1.1.2.1 ((lit [(a2,a3)]:List (Int×Str)))).bind fun l2=>some (((r1.1.1.1,l2,r1.1.1.2.2.1,r1.1.1.2.2.2),r1.1.2.1,r1.1.2.2.1,r1.1.2.2.2.1,r1.1.2.2.2.2.1,r1.1.2.2.2.2.2),0)
@[simp] def g38_O:(K1×Int)→TV×List Blk:=fun r=>((.int .i64 r.2),[(.live 12 [[(ow 1 r.1.1.1.length),(ow 2 r.1.1.2.1.length),(.int .i64 r.1.1.2.2.1),(.bool r.1.1.2.2.2),(.int .i64 r.1.2.1.1),(.int .i64 r.1.2.1.2.1),(.int .i64 r.1.2.1.2.2.1),(.int .i64 r.1.2.1.2.2.2),(.int .i64 r.1.2.2.1),(.int .i64 r.1.2.2.2.1),(ow 3 r.1.2.2.2.2.1.length),(ow 4 r.1.2.2.2.2.2.length)]]),(ob 1 r.1.1.1),(ob 2 r.1.1.2.1),(ob 2 r.1.2.2.2.2.1),(ob 2 r.1.2.2.2.2.2)])
abbrev g38_T:=K1×Int×Str
def g38_E (a:g38_T):List TV:=[(.ptr 0 0 0),(.int .i64 a.2.1),(.str a.2.2)]
def g38_B (a:g38_T):List Blk:=[(.live 12 [[(ow 1 a.1.1.1.length),(ow 2 a.1.1.2.1.length),(.int .i64 a.1.1.2.2.1),(.bool a.1.1.2.2.2),(.int .i64 a.1.2.1.1),(.int .i64 a.1.2.1.2.1),(.int .i64 a.1.2.1.2.2.1),(.int .i64 a.1.2.1.2.2.2),(.int .i64 a.1.2.2.1),(.int .i64 a.1.2.2.2.1),(ow 3 a.1.2.2.2.2.1.length),(ow 4 a.1.2.2.2.2.2.length)]]),(ob 1 a.1.1.1),(ob 2 a.1.1.2.1),(ob 2 a.1.2.2.2.2.1),(ob 2 a.1.2.2.2.2.2)]
theorem g38_run (a1:K1) (a2:Int) (a3:Str) :callFn (X g38_S) g38_tf (g38_E (a1,a2,a3)) (g38_B (a1,a2,a3))=(spec_l09Write_oc8 a1 a2 a3).map g38_O:=by
  rw [callFn_eq]
  simp (maxSteps:=2000000) (maxDischargeDepth:=8) -implicitDefEqProofs [g38_tf,spec_l09Write_oc8,g38_E,g38_B,bslV_lit (α:=Int×Str) (zs:=[(.int .i64 0),(.str [])])] <;> (try simp only [map_to_bind,some_elim,g38_O])
def g38_r:MRule:=RmO g38_E g38_B (fun a=>spec_l09Write_oc8 a.1 a.2.1 a.2.2) g38_O
theorem g38_ok:MRuleOk Tryz.prog 156 1 g38_r:=ok_rmo (S:=g38_S) (tf:=g38_tf) (SysOk.on trivial ⟨g37_ok,trivial⟩) (trE_ok (ks:=[]) Tryz.func156 (by kernel_rfl)) (by rfl) (fun _=>by simp [g38_B]) (fun _=>by simp) fun a=>g38_run a.1 a.2.1 a.2.2
@[simp] theorem g38_app (y0:List Str)(y1:List (Int×Str))(y2 y3 y4 y5 y6 y7 y8 y9)(y10:List (Int×Str))(y11:List (Int×Str))(y12 y13){n1:Nat}(h1:n1=y0.length){n2:Nat}(h2:n2=y1.length){n3:Nat}(h3:n3=y10.length){n4:Nat}(h4:n4=y11.length):g38_r [(.ptr 0 0 0),(.int .i64 y12),(.str y13)] [(.live 12 [[(ow 1 n1),(ow 2 n2),(.int .i64 y2),(.bool y3),(.int .i64 y4),(.int .i64 y5),(.int .i64 y6),(.int .i64 y7),(.int .i64 y8),(.int .i64 y9),(ow 3 n3),(ow 4 n4)]]),(ob 1 y0),(ob 2 y1),(ob 2 y10),(ob 2 y11)]=(spec_l09Write_oc8 (((y0,y1,y2,y3),(y4,y5,y6,y7),y8,y9,y10,y11)) y12 y13).map g38_O:=by
  subst h1 h2 h3 h4
  exact RmO_app (enc:=g38_E) (encB:=g38_B) (by intro a b h h2;simp [g38_E,g38_B,Prod.ext_iff] at h h2 ⊢;simp [h,h2]) (((y0,y1,y2,y3),(y4,y5,y6,y7),y8,y9,y10,y11),y12,y13)
/-! spec.l09Barrier -/
def g25l1_cb:TC:=(.seq (sq [mo 7 3,mo 8 0,nk 9 8,fa 10 1 9,ld 11 10,le 12 11,bn 13 .lss (.t 7) (.t 12)] [0,3,13] (.cond (.t 13) .skip (.keep (kp [(0,0)] [(0,2),(1,1),(2,1),(3,1),(4,1)] 1) (.exit 0)))) (.trim [0,3] (.seq (.block 1 (.draw [([],mo 16 0),([0],nk 17 16),([0,1],fa 18 0 17),([0,1,2],ld 19 18),([],mo 20 0),([4],nk 21 20),([4,5],fa 22 1 21),([4,5,6],ld 23 22),([],mo 24 3),([4,5,6,7,8],ia 25 2 23 24),([4,5,6,7,8,9],fa 26 0 25),([4,5,6,7,8,9,10],ld 27 26),([],mo 28 0),([12],nk 29 28),([12,13],fa 30 1 29),([12,13,14],ld 31 30),([],mo 32 3),([12,13,14,15,16],ia 33 2 31 32),([12,13,14,15,16,17],fa 34 1 33),([12,13,14,15,16,17,18],ld 35 34)] [ia 36 1 19 27,⟨none,none,(.store 1 (.t 36) (.t 35))⟩])) (.trim [0,3] (.after (.ops [mo 14 3,bn 15 .add (.t 14) (ki 1),mo 3 15]) (kp [(0,0),(3,0)] [(0,2),(1,1),(2,1),(3,1),(4,1)] 1))))))
def g25l1_c:TC:=.loop [0,3] g25l1_cb
def g25_tf:TFn:=⟨(sq [mk 2 (ki 0)] [0] (.seq (sq [mo 4 0,oo 5 (.callM 159 1 [0,1,2,3,4] [.t 4]),nt 6 5] [0,6] (.cond (.t 6) (.seq (.ops [mk 2 (ki 13)]) (.keep (kp [(2,0)] [(0,2),(5,1),(6,1),(7,1),(8,1)] 1) .ret)) .skip)) (.trim [0] (.seq (sq [mk 3 (ki 0)] [0,3] (.block 0 (.keep (kp [(0,0),(3,0)] [(0,2),(5,1),(6,1),(7,1),(8,1)] 1) g25l1_c))) (.trim [0] (sq [mo 37 0,oo 38 (.bslice [(.int .i64 0),(.str [])] 0 []),nk 39 37,fa 40 1 39,⟨none,none,(.store 1 (.t 40) (.t 38))⟩] [] (.seq (.ops [mk 2 (ki 0)]) (.keep (kp [(2,0)] [(0,2),(1,1),(1000,1),(3,1),(4,1)] 1) .ret)))))))),[.t 2]⟩
abbrev g25_S:=Sys.on [] [((159,1),(1,g37_r))]
@[reducible,simp] def g25l1_F:(K1)→Out:=(fun t=>(.ext 0,[(0,(.ptr 0 0 0))],[(.live 12 [[(ow 1 t.1.1.length),(ow 2 t.1.2.1.length),(.int .i64 t.1.2.2.1),(.bool t.1.2.2.2),(.int .i64 t.2.1.1),(.int .i64 t.2.1.2.1),(.int .i64 t.2.1.2.2.1),(.int .i64 t.2.1.2.2.2),(.int .i64 t.2.2.1),(.int .i64 t.2.2.2.1),(ow 3 t.2.2.2.2.1.length),(ow 4 t.2.2.2.2.2.length)]]),(ob 1 t.1.1),(ob 2 t.1.2.1),(ob 2 t.2.2.2.2.1),(ob 2 t.2.2.2.2.2)]))
def spec_l09Barrier_o19_l1_b (v2:K1) (v3:Int):Option ((K1×Int) ⊕ (K1)):=if v3 < ((v2.1.2.1.length:Nat):Int) then if 0≤v3∧v3 < ((v2.1.2.1.length:Nat):Int) then (v2.1.2.1[(v3).toNat]?).bind fun x4=>if 0≤v3∧v3 < ((v2.1.2.1.length:Nat):Int) then (v2.1.2.1[(v3).toNat]?).bind fun x5=>if 0≤x4.1∧x4.1 < ((v2.1.1.length:Nat):Int) then (v2.1.1[(x4.1).toNat]?).bind fun x6=>some (.inl ((((v2.1.1.set (x4.1).toNat x5.2),v2.1.2.1,v2.1.2.2.1,v2.1.2.2.2),v2.2.1,v2.2.2.1,v2.2.2.2.1,v2.2.2.2.2.1,v2.2.2.2.2.2),(IntKind.i64.wrap (v3+1)))) else none else none else none else some (.inr v2)
theorem g25l1_b_eq  (v2:K1) (v3:Int):X g25_S g25l1_cb (keepEnv [0,3] [(0,(.ptr 0 0 0)),(3,(.int .i64 v3))]) [(.live 12 [[(ow 1 v2.1.1.length),(ow 2 v2.1.2.1.length),(.int .i64 v2.1.2.2.1),(.bool v2.1.2.2.2),(.int .i64 v2.2.1.1),(.int .i64 v2.2.1.2.1),(.int .i64 v2.2.1.2.2.1),(.int .i64 v2.2.1.2.2.2),(.int .i64 v2.2.2.1),(.int .i64 v2.2.2.2.1),(ow 3 v2.2.2.2.2.1.length),(ow 4 v2.2.2.2.2.2.length)]]),(ob 1 v2.1.1),(ob 2 v2.1.2.1),(ob 2 v2.2.2.2.2.1),(ob 2 v2.2.2.2.2.2)]=(spec_l09Barrier_o19_l1_b v2 v3).map (Sum.elim (fun s=>(TX.nrm,[(0,(.ptr 0 0 0)),(3,(.int .i64 s.2))],[(.live 12 [[(ow 1 s.1.1.1.length),(ow 2 s.1.1.2.1.length),(.int .i64 s.1.1.2.2.1),(.bool s.1.1.2.2.2),(.int .i64 s.1.2.1.1),(.int .i64 s.1.2.1.2.1),(.int .i64 s.1.2.1.2.2.1),(.int .i64 s.1.2.1.2.2.2),(.int .i64 s.1.2.2.1),(.int .i64 s.1.2.2.2.1),(ow 3 s.1.2.2.2.2.1.length),(ow 4 s.1.2.2.2.2.2.length)]]),(ob 1 s.1.1.1),(ob 2 s.1.1.2.1),(ob 2 s.1.2.2.2.2.1),(ob 2 s.1.2.2.2.2.2)])) g25l1_F):=by
  simp (maxSteps:=2000000) (maxDischargeDepth:=8) -implicitDefEqProofs [g25l1_cb,spec_l09Barrier_o19_l1_b] <;> (try simp only [map_to_bind,some_elim,g25l1_F])
def spec_l09Barrier_o19_l1  (s:K1×Int):Option (K1):=loopO (fun s=>spec_l09Barrier_o19_l1_b  s.1 s.2) s
@[simp] theorem g25l1_eq (y0:List Str)(y1:List (Int×Str))(y2 y3 y4 y5 y6 y7 y8 y9)(y10:List (Int×Str))(y11:List (Int×Str))(y12){n1:Nat}(h1:n1=y0.length){n2:Nat}(h2:n2=y1.length){n3:Nat}(h3:n3=y10.length){n4:Nat}(h4:n4=y11.length):X g25_S g25l1_c [(0,(.ptr 0 0 0)),(3,(.int .i64 y12))] [(.live 12 [[(ow 1 n1),(ow 2 n2),(.int .i64 y2),(.bool y3),(.int .i64 y4),(.int .i64 y5),(.int .i64 y6),(.int .i64 y7),(.int .i64 y8),(.int .i64 y9),(ow 3 n3),(ow 4 n4)]]),(ob 1 y0),(ob 2 y1),(ob 2 y10),(ob 2 y11)]=(spec_l09Barrier_o19_l1  (((y0,y1,y2,y3),(y4,y5,y6,y7),y8,y9,y10,y11),y12)).map g25l1_F:=by
  subst h1 h2 h3 h4
  exact loop_X _ _ _ _ (by intro r;first | (simp;done) | (rcases r with r | r <;> simp;done) | (rcases r with r | r | r <;> simp;done) | (rcases r with r | r | r | r <;> simp)) (fun s=>g25l1_b_eq   s.1 s.2) (((y0,y1,y2,y3),(y4,y5,y6,y7),y8,y9,y10,y11),y12)
def spec_l09Barrier_o19 (a1:K1):Option (K1×Int):=(spec_l09Power_o19 a1).bind fun r1=>if ¬(r1.2=true) then some (r1.1,13) else (spec_l09Barrier_o19_l1 ((r1.1,0))).bind fun r7=>some (((r7.1.1,([]:List (Int×Str)),r7.1.2.2.1,r7.1.2.2.2),r7.2.1,r7.2.2.1,r7.2.2.2.1,r7.2.2.2.2.1,r7.2.2.2.2.2),0)
@[simp] def g25_O:(K1×Int)→TV×List Blk:=fun r=>((.int .i64 r.2),[(.live 12 [[(ow 1 r.1.1.1.length),(ow 2 r.1.1.2.1.length),(.int .i64 r.1.1.2.2.1),(.bool r.1.1.2.2.2),(.int .i64 r.1.2.1.1),(.int .i64 r.1.2.1.2.1),(.int .i64 r.1.2.1.2.2.1),(.int .i64 r.1.2.1.2.2.2),(.int .i64 r.1.2.2.1),(.int .i64 r.1.2.2.2.1),(ow 3 r.1.2.2.2.2.1.length),(ow 4 r.1.2.2.2.2.2.length)]]),(ob 1 r.1.1.1),(ob 2 r.1.1.2.1),(ob 2 r.1.2.2.2.2.1),(ob 2 r.1.2.2.2.2.2)])
abbrev g25_T:=K1
def g25_E (a:g25_T):List TV:=[(.ptr 0 0 0)]
def g25_B (a:g25_T):List Blk:=[(.live 12 [[(ow 1 a.1.1.length),(ow 2 a.1.2.1.length),(.int .i64 a.1.2.2.1),(.bool a.1.2.2.2),(.int .i64 a.2.1.1),(.int .i64 a.2.1.2.1),(.int .i64 a.2.1.2.2.1),(.int .i64 a.2.1.2.2.2),(.int .i64 a.2.2.1),(.int .i64 a.2.2.2.1),(ow 3 a.2.2.2.2.1.length),(ow 4 a.2.2.2.2.2.length)]]),(ob 1 a.1.1),(ob 2 a.1.2.1),(ob 2 a.2.2.2.2.1),(ob 2 a.2.2.2.2.2)]
theorem g25_run (a1:K1) :callFn (X g25_S) g25_tf (g25_E a1) (g25_B a1)=(spec_l09Barrier_o19 a1).map g25_O:=by
  rw [callFn_eq]
  simp (maxSteps:=2000000) (maxDischargeDepth:=8) -implicitDefEqProofs [g25_tf,spec_l09Barrier_o19,g25_E,g25_B] <;> (try simp only [map_to_bind,some_elim,g25_O])
def g25_r:MRule:=RmO g25_E g25_B (fun a=>spec_l09Barrier_o19 a) g25_O
theorem g25_ok:MRuleOk Tryz.prog 141 1 g25_r:=ok_rmo (S:=g25_S) (tf:=g25_tf) (SysOk.on trivial ⟨g37_ok,trivial⟩) (trE_ok (ks:=[[0,3],[20]]) Tryz.func141 (by kernel_rfl)) (by rfl) (fun _=>by simp [g25_B]) (fun _=>by simp) fun a=>g25_run a
@[simp] theorem g25_app (y0:List Str)(y1:List (Int×Str))(y2 y3 y4 y5 y6 y7 y8 y9)(y10:List (Int×Str))(y11:List (Int×Str)){n1:Nat}(h1:n1=y0.length){n2:Nat}(h2:n2=y1.length){n3:Nat}(h3:n3=y10.length){n4:Nat}(h4:n4=y11.length):g25_r [(.ptr 0 0 0)] [(.live 12 [[(ow 1 n1),(ow 2 n2),(.int .i64 y2),(.bool y3),(.int .i64 y4),(.int .i64 y5),(.int .i64 y6),(.int .i64 y7),(.int .i64 y8),(.int .i64 y9),(ow 3 n3),(ow 4 n4)]]),(ob 1 y0),(ob 2 y1),(ob 2 y10),(ob 2 y11)]=(spec_l09Barrier_o19 (((y0,y1,y2,y3),(y4,y5,y6,y7),y8,y9,y10,y11))).map g25_O:=by
  subst h1 h2 h3 h4
  exact RmO_app (enc:=g25_E) (encB:=g25_B) (by intro a b h h2;simp [g25_E,g25_B,Prod.ext_iff] at h h2 ⊢;simp [h,h2]) (((y0,y1,y2,y3),(y4,y5,y6,y7),y8,y9,y10,y11))
end
end Go.Proofs.TM
