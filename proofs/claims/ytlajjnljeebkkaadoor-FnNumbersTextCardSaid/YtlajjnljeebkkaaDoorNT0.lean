/- Functions of the program, as functions of their data: written by program. -/
import Derived.Test.YtlajjnljeebkkaaDoorTRec
import Derived.Test.YtlajjnljeebkkaaDoorTShelf
import Derived.Test.YtlajjnljeebkkaaDoorTLib
import Derived.Test.YtlajjnljeebkkaaDoorProg
import Derived.KernelRfl
namespace Go.Proofs.TM
open Go Go.Proofs
set_option linter.unusedVariables false
set_option linter.unusedSimpArgs false
set_option maxHeartbeats 1000000
attribute [-simp] Option.map_bind strV_some
attribute [simp] guardOn_bool sA_bslice Function.comp_def
noncomputable section

/-! spec.l00From -/
def g37_tf:TFn:=⟨(sq [mk 2 (.c .nilp)] [0] (.seq (.ops [mo 3 0,oo 4 (.build [.nils,(.int .i64 0),(.int .u64 0)] [(0,1,(.t 3))]),bx 5 4,mo 2 5]) (.keep (kp [(2,0)] [(0,0)] 0) .ret))),[.t 2]⟩
abbrev g37_S:=Sys.on [] []
def spec_l00From (a_code:List Bt):Option (List Bt×Int×Int):=some (a_code,0,0)
@[simp] def g37_O:(List Bt×Int×Int)→TV×List Blk:=fun r=>((.ptr 0 0 0),[(.live 3 [[(.vs (rows r.1)),(.int .i64 r.2.1),(.int .u64 r.2.2)]])])
def g37_E (a:List Bt):List TV:=[(.vs (rows a))]
theorem g37_run (a_code:List Bt) :callFn (X g37_S) g37_tf (g37_E a_code) []=(spec_l00From a_code).map g37_O:=by
  rw [callFn_eq]
  simp (maxSteps:=2000000) (maxDischargeDepth:=8) -implicitDefEqProofs [g37_tf,spec_l00From,g37_E] <;> (try simp only [map_to_bind,some_elim,g37_O])
def g37_r:Rule:=RlO g37_E (fun a=>spec_l00From a) g37_O
theorem g37_ok:RuleOk Tryd.prog 66 g37_r:=ok_rlo (S:=g37_S) (tf:=g37_tf) (SysOk.on trivial trivial) (trE_ok (ks:=[]) Tryd.func66 (by kernel_rfl)) fun a=>g37_run a
@[simp] theorem g37_app (y0):g37_r [(.vs (rows y0))]=(spec_l00From y0).map g37_O :=
  RlO_app (enc:=g37_E) (by intro a b h;simp [g37_E,Prod.ext_iff] at h ⊢;simp [h]) y0
/-! (*spec.l00Src).next -/
def g9p1_c:TC:=(sq [mo 25 0,nk 26 25,fa 27 1 26,ld 28 27,bn 29 .add (.t 28) (ki 1),nk 30 25,fa 31 1 30,⟨none,none,(.store 1 (.t 31) (.t 29))⟩] [0,3] (sq [mo 32 0,mo 33 0,nk 34 33,fa 35 2 34,ld 36 35,oo 37 (.bin .num .mul (.t 36) (.c (.int .u64 6364136223846793005))),mo 38 3,oo 39 (.conv (.toInt .u64) (.t 38)),bn 40 .add (.t 37) (.t 39),oo 41 (.bin .num .add (.t 40) (.c (.int .u64 1442695040888963407))),nk 42 32,fa 43 2 42,⟨none,none,(.store 1 (.t 43) (.t 41))⟩] [0,3] (.seq (.seq (.draw [([],mo 44 0),([0],nk 45 44),([0,1],fa 46 1 45),([0,1,2],ld 47 46),([],mo 48 0),([4],nk 49 48),([4,5],fa 50 0 49),([4,5,6],ld 51 50),([4,5,6,7],le 52 51)] [bn 53 .leq (.t 47) (.t 52)]) (.trim [0,3,53] (.cond (.t 53) (.seq (.ops [mo 54 3,mo 2 54]) (.keep (kp [(2,0)] [(0,0)] 1) .ret)) .skip))) (.trim [0] (.seq (.ops [mo 55 0,nk 56 55,fa 57 2 56,ld 58 57,oo 59 (.bin .num .shr (.t 58) (.c (.int .u64 40))),oo 60 (.bin .num .and (.t 59) (.c (.int .u64 255))),oo 61 (.conv (.toInt .i64) (.t 60)),mo 2 61]) (.keep (kp [(2,0)] [(0,0)] 1) .ret))))))
def g9_tf:TFn:=⟨(sq [mk 2 (ki 0)] [0] (sq [mk 3 (ki 0)] [0,3] (.seq (.seq (.draw [([],mo 4 0),([0],nk 5 4),([0,1],fa 6 1 5),([0,1,2],ld 7 6),([],mo 8 0),([4],nk 9 8),([4,5],fa 10 0 9),([4,5,6],ld 11 10),([4,5,6,7],le 12 11)] [bn 13 .lss (.t 7) (.t 12)]) (.trim [0,3,13] (.cond (.t 13) (.after (.draw [([],mo 14 0),([0],nk 15 14),([0,1],fa 16 0 15),([0,1,2],ld 17 16),([],mo 18 0),([4],nk 19 18),([4,5],fa 20 1 19),([4,5,6],ld 21 20)] [ia 22 1 17 21,ld 23 22,oo 24 (.conv (.toInt .i64) (.t 23)),mo 3 24]) (kp [(0,0),(3,0)] [(0,0)] 1)) (.keep (kp [(0,0),(3,0)] [(0,0)] 1) .skip)))) (.trim [0,3] g9p1_c)))),[.t 2]⟩
abbrev g9_S:=Sys.on [] []
@[reducible,simp] def g9p1_F:(List Bt×Int×Int×Int)→Out:=(fun t=>(.ret,[(2,(.int .i64 t.2.2.2))],[(.live 3 [[(.vs (rows t.1)),(.int .i64 t.2.1),(.int .u64 t.2.2.1)]])]))
def spec_l00Src_next_o9d_p1 (v2:List Bt) (v3:Int) (v4:Int) (v5:Int):Option (List Bt×Int×Int×Int):=if (IntKind.i64.wrap (v3+1))≤(v2.length:Int) then some ((v2,(IntKind.i64.wrap (v3+1)),(IntKind.u64.wrap ((IntKind.u64.wrap ((IntKind.u64.wrap (v4 * 6364136223846793005))+(IntKind.u64.wrap v5)))+1442695040888963407)),v5)) else some ((v2,(IntKind.i64.wrap (v3+1)),(IntKind.u64.wrap ((IntKind.u64.wrap ((IntKind.u64.wrap (v4 * 6364136223846793005))+(IntKind.u64.wrap v5)))+1442695040888963407)),(IntKind.i64.wrap ((bitV .and .u64 ((shrV .u64 ((IntKind.u64.wrap ((IntKind.u64.wrap ((IntKind.u64.wrap (v4 * 6364136223846793005))+(IntKind.u64.wrap v5)))+1442695040888963407))) 40)) 255)))))
@[simp] theorem g9p1_eq (y0 y1 y2 y3):X g9_S g9p1_c [(0,(.ptr 0 0 0)),(3,(.int .i64 y3))] [(.live 3 [[(.vs (rows y0)),(.int .i64 y1),(.int .u64 y2)]])]=(spec_l00Src_next_o9d_p1 y0 y1 y2 y3).map g9p1_F:=by
  simp (maxSteps:=2000000) (maxDischargeDepth:=8) -implicitDefEqProofs [g9p1_c,spec_l00Src_next_o9d_p1] <;> (try simp only [map_to_bind,some_elim,g9p1_F])
def spec_l00Src_next_o9d (a1:List Bt) (a2:Int) (a3:Int):Option (List Bt×Int×Int×Int):=if a2 < (a1.length:Int) then if 0≤a2 then (a1[(a2).toNat]?).bind fun x1=>(spec_l00Src_next_o9d_p1 a1 a2 a3 ((IntKind.i64.wrap ((x1.v.toNat:Int))))).bind fun r6=>some (r6.1,r6.2.1,r6.2.2.1,r6.2.2.2) else none else (spec_l00Src_next_o9d_p1 a1 a2 a3 0).bind fun r7=>some (r7.1,r7.2.1,r7.2.2.1,r7.2.2.2)
@[simp] def g9_O:(List Bt×Int×Int×Int)→TV×List Blk:=fun r=>((.int .i64 r.2.2.2),[(.live 3 [[(.vs (rows r.1)),(.int .i64 r.2.1),(.int .u64 r.2.2.1)]])])
abbrev g9_T:=List Bt×Int×Int
def g9_E (a:g9_T):List TV:=[(.ptr 0 0 0)]
def g9_B (a:g9_T):List Blk:=[(.live 3 [[(.vs (rows a.1)),(.int .i64 a.2.1),(.int .u64 a.2.2)]])]
theorem g9_run (a1:List Bt) (a2:Int) (a3:Int) :callFn (X g9_S) g9_tf (g9_E (a1,a2,a3)) (g9_B (a1,a2,a3))=(spec_l00Src_next_o9d a1 a2 a3).map g9_O:=by
  rw [callFn_eq]
  simp (maxSteps:=2000000) (maxDischargeDepth:=8) -implicitDefEqProofs [g9_tf,spec_l00Src_next_o9d,g9_E,g9_B] <;> (try simp only [map_to_bind,some_elim,g9_O])
def g9_r:MRule:=RmO g9_E g9_B (fun a=>spec_l00Src_next_o9d a.1 a.2.1 a.2.2) g9_O
theorem g9_ok:MRuleOk Tryd.prog 109 1 g9_r:=ok_rmo (S:=g9_S) (tf:=g9_tf) (SysOk.on trivial trivial) (trE_ok (ks:=[[9],[8],[9]]) Tryd.func109 (by kernel_rfl)) (by rfl) (fun _=>by simp [g9_B]) (fun _=>by simp) fun a=>g9_run a.1 a.2.1 a.2.2
@[simp] theorem g9_app (y0 y1 y2):g9_r [(.ptr 0 0 0)] [(.live 3 [[(.vs (rows y0)),(.int .i64 y1),(.int .u64 y2)]])]=(spec_l00Src_next_o9d y0 y1 y2).map g9_O:=by
  exact RmO_app (enc:=g9_E) (encB:=g9_B) (by intro a b h h2;simp [g9_E,g9_B,Prod.ext_iff] at h h2 ⊢;simp [h,h2]) (y0,y1,y2)
/-! (*spec.l00Src).pick -/
def g10_tf:TFn:=⟨(sq [mk 4 (ki 0)] [0,1] (.seq (sq [mo 6 1,bn 7 .leq (.t 6) (ki 1)] [0,1,7] (.cond (.t 7) (.seq (.ops [mk 4 (ki 0)]) (.keep (kp [(4,0)] [(0,0)] 1) .ret)) .skip)) (.trim [0,1] (sq [mo 8 0,oo 9 (.callM 109 0 [0] [.t 8]),mo 5 9] [0,1,5] (.seq (sq [mo 10 1,bn 11 .gtr (.t 10) (ki 200)] [0,1,5,11] (.cond (.t 11) (.after (.ops [mo 12 5,bn 13 .mul (.t 12) (ki 256),mo 14 0,oo 15 (.callM 109 0 [0] [.t 14]),bn 16 .add (.t 13) (.t 15),mo 5 16]) (kp [(1,0),(5,0)] [(0,0)] 1)) (.keep (kp [(1,0),(5,0)] [(0,0)] 1) .skip))) (.trim [1,5] (.seq (.ops [mo 17 5,mo 18 1,bn 19 .rem (.t 17) (.t 18),mo 4 19]) (.keep (kp [(4,0)] [(0,0)] 1) .ret)))))))),[.t 4]⟩
abbrev g10_S:=Sys.on [] [((109,0),(1,g9_r))]
def spec_l00Src_pick_o30 (a1:List Bt) (a2:Int) (a3:Int) (a4:Int):Option (List Bt×Int×Int×Int):=if a4≤1 then some (a1,a2,a3,0) else (spec_l00Src_next_o9d a1 a2 a3).bind fun r1=>if a4 > 200 then (spec_l00Src_next_o9d r1.1 r1.2.1 r1.2.2.1).bind fun r2=>if a4=0 then none else some (r2.1,r2.2.1,r2.2.2.1,(Int.tmod ((IntKind.i64.wrap ((IntKind.i64.wrap (r1.2.2.2 * 256))+r2.2.2.2))) a4)) else if a4=0 then none else some (r1.1,r1.2.1,r1.2.2.1,(Int.tmod r1.2.2.2 a4))
@[simp] def g10_O:(List Bt×Int×Int×Int)→TV×List Blk:=fun r=>((.int .i64 r.2.2.2),[(.live 3 [[(.vs (rows r.1)),(.int .i64 r.2.1),(.int .u64 r.2.2.1)]])])
abbrev g10_T:=List Bt×Int×Int×Int
def g10_E (a:g10_T):List TV:=[(.ptr 0 0 0),(.int .i64 a.2.2.2)]
def g10_B (a:g10_T):List Blk:=[(.live 3 [[(.vs (rows a.1)),(.int .i64 a.2.1),(.int .u64 a.2.2.1)]])]
theorem g10_run (a1:List Bt) (a2:Int) (a3:Int) (a4:Int) :callFn (X g10_S) g10_tf (g10_E (a1,a2,a3,a4)) (g10_B (a1,a2,a3,a4))=(spec_l00Src_pick_o30 a1 a2 a3 a4).map g10_O:=by
  rw [callFn_eq]
  simp (maxSteps:=2000000) (maxDischargeDepth:=8) -implicitDefEqProofs [g10_tf,spec_l00Src_pick_o30,g10_E,g10_B] <;> (try simp only [map_to_bind,some_elim,g10_O])
def g10_r:MRule:=RmO g10_E g10_B (fun a=>spec_l00Src_pick_o30 a.1 a.2.1 a.2.2.1 a.2.2.2) g10_O
theorem g10_ok:MRuleOk Tryd.prog 67 1 g10_r:=ok_rmo (S:=g10_S) (tf:=g10_tf) (SysOk.on trivial ⟨g9_ok,trivial⟩) (trE_ok (ks:=[]) Tryd.func67 (by kernel_rfl)) (by rfl) (fun _=>by simp [g10_B]) (fun _=>by simp) fun a=>g10_run a.1 a.2.1 a.2.2.1 a.2.2.2
@[simp] theorem g10_app (y0 y1 y2 y3):g10_r [(.ptr 0 0 0),(.int .i64 y3)] [(.live 3 [[(.vs (rows y0)),(.int .i64 y1),(.int .u64 y2)]])]=(spec_l00Src_pick_o30 y0 y1 y2 y3).map g10_O:=by
  exact RmO_app (enc:=g10_E) (encB:=g10_B) (by intro a b h h2;simp [g10_E,g10_B,Prod.ext_iff] at h h2 ⊢;simp [h,h2]) (y0,y1,y2,y3)
/-! spec.l05Count -/
def g33l1_cb:TC:=(.seq (sq [mo 5 4,mo 6 0,le 7 6,bn 8 .lss (.t 5) (.t 7)] [0,3,4,8] (.cond (.t 8) .skip (.keep (kp [(3,0)] [] 0) (.exit 0)))) (.trim [0,3,4] (.seq (.block 1 (.ops [mo 11 3,mo 12 0,mo 13 4,ia 14 1 12 13,ld 15 14,bn 16 .mul (.t 11) (.t 15),mo 3 16])) (.trim [0,3,4] (.after (.ops [mo 9 4,bn 10 .add (.t 9) (ki 1),mo 4 10]) (kp [(0,0),(3,0),(4,0)] [] 0))))))
def g33l1_c:TC:=.loop [0,3,4] g33l1_cb
def g33_tf:TFn:=⟨(sq [mk 2 (ki 0)] [0] (sq [mk 3 (ki 1)] [0,3] (.seq (sq [mk 4 (ki 0)] [0,3,4] (.block 0 (.keep (kp [(0,0),(3,0),(4,0)] [] 0) g33l1_c))) (.trim [3] (.seq (.ops [mo 17 3,mo 2 17]) (.keep (kp [(2,0)] [] 0) .ret)))))),[.t 2]⟩
abbrev g33_S:=Sys.on [] []
@[reducible,simp] def g33l1_F:Int→Out:=(fun t=>(.ext 0,[(3,(.int .i64 t))],[]))
def spec_l05Count_l1_b (v1:List Int) (v2:Int) (v3:Int):Option ((Int×Int) ⊕ (Int)):=if v3 < (v1.length:Int) then if 0≤v3 then (v1[(v3).toNat]?).bind fun x4=>some (.inl ((IntKind.i64.wrap (v2 * x4)),(IntKind.i64.wrap (v3+1)))) else none else some (.inr v2)
theorem g33l1_b_eq  (v1:List Int) (v2:Int) (v3:Int):X g33_S g33l1_cb (keepEnv [0,3,4] [(0,(.vs (rows v1))),(3,(.int .i64 v2)),(4,(.int .i64 v3))]) []=(spec_l05Count_l1_b v1 v2 v3).map (Sum.elim (fun s=>(TX.nrm,[(0,(.vs (rows v1))),(3,(.int .i64 s.1)),(4,(.int .i64 s.2))],[])) g33l1_F):=by
  simp (maxSteps:=2000000) (maxDischargeDepth:=8) -implicitDefEqProofs [g33l1_cb,spec_l05Count_l1_b] <;> (try simp only [map_to_bind,some_elim,g33l1_F])
def spec_l05Count_l1 (v1:List Int) (s:Int×Int):Option (Int):=loopO (fun s=>spec_l05Count_l1_b v1 s.1 s.2) s
@[simp] theorem g33l1_eq (y0 y1 y2):X g33_S g33l1_c [(0,(.vs (rows y0))),(3,(.int .i64 y1)),(4,(.int .i64 y2))] []=(spec_l05Count_l1 y0 (y1,y2)).map g33l1_F:=by
  exact loop_X _ _ _ _ (by intro r;first | (simp;done) | (rcases r with r | r <;> simp;done) | (rcases r with r | r | r <;> simp;done) | (rcases r with r | r | r | r <;> simp)) (fun s=>g33l1_b_eq  y0 s.1 s.2) (y1,y2)
def spec_l05Count (a_dims:List Int):Option (Int):=(spec_l05Count_l1 a_dims ((1,0))).bind fun r5=>some r5
@[simp] def g33_O:Int→TV×List Blk:=fun r=>((.int .i64 r),[])
def g33_E (a:List Int):List TV:=[(.vs (rows a))]
theorem g33_run (a_dims:List Int) :callFn (X g33_S) g33_tf (g33_E a_dims) []=(spec_l05Count a_dims).map g33_O:=by
  rw [callFn_eq]
  simp (maxSteps:=2000000) (maxDischargeDepth:=8) -implicitDefEqProofs [g33_tf,spec_l05Count,g33_E] <;> (try simp only [map_to_bind,some_elim,g33_O])
def g33_r:Rule:=RlO g33_E (fun a=>spec_l05Count a) g33_O
theorem g33_ok:RuleOk Tryd.prog 110 g33_r:=ok_rlo (S:=g33_S) (tf:=g33_tf) (SysOk.on trivial trivial) (trE_ok (ks:=[[0,3,4]]) Tryd.func110 (by kernel_rfl)) fun a=>g33_run a
@[simp] theorem g33_app (y0):g33_r [(.vs (rows y0))]=(spec_l05Count y0).map g33_O :=
  RlO_app (enc:=g33_E) (by intro a b h;simp [g33_E,Prod.ext_iff] at h ⊢;simp [h]) y0
/-! spec.l25DrawNumbers -/
def g6l1_cb:TC:=(.seq (sq [mo 11 6,bn 12 .gtr (.t 11) (ki 0)] [0,4,5,6,12] (.cond (.t 12) .skip (.keep (kp [(4,0),(5,0)] [(0,0),(1,0),(2,2),(3,2),(4,1)] 2) (.exit 0)))) (.trim [0,4,5,6] (.seq (.block 1 (.drawF [(none,fa 15 1 5),(none,ld 16 15),(none,mo 17 0),(some [15,16],oo 18 (.callM 67 0 [0] [.t 17,ki 9])),(none,bn 19 .sub (.t 18) (ki 3)),(some [15,16],oo 20 (.bslice [(.int .i64 0)] 1 [(0,(.t 19))]))] [oo 21 (.append 2 1 8 (.t 16) (.t 20)),fa 22 1 5,⟨none,none,(.store 1 (.t 22) (.t 21))⟩])) (.trim [0,4,5,6] (.after (.ops [mo 13 6,bn 14 .sub (.t 13) (ki 1),mo 6 14]) (kp [(0,0),(4,0),(5,0),(6,0)] [(0,0),(1,0),(2,2),(3,2),(6,1)] 2))))))
def g6l1_c:TC:=.loop [0,4,5,6] g6l1_cb
def g6_tf:TFn:=⟨(sq [oo 4 (.alloc [.nils,.nils])] [0,1,4] (sq [mo 7 1,oo 8 (.build [.nils,.nils] [(0,1,(.t 7))]),oo 5 (.alloc [.nils,.nils]),⟨none,none,(.store 2 (.t 5) (.t 8))⟩] [0,1,4,5] (.seq (sq [mo 9 1,ca 10 110 [.t 9],mo 6 10] [0,4,5,6] (.block 0 (.keep (kp [(0,0),(4,0),(5,0),(6,0)] [(0,0),(1,0),(2,2),(3,2),(1000,1)] 2) g6l1_c))) (.trim [4,5] (.seq (.ops [ln 23 2 5,⟨none,none,(.store 2 (.t 4) (.t 23))⟩]) (.keep (kp [(4,0)] [(0,0),(1,0),(2,2),(4,1)] 2) .ret)))))),[.cell 4 (some 2)]⟩
abbrev g6_S:=Sys.on [(110,g33_r)] [((67,0),(1,g10_r))]
@[reducible,simp] def g6l1_F:(List Bt×Int×Int×List Int×List Int)→Out:=(fun t=>(.ext 0,[(4,(.ptr 2 0 0)),(5,(.ptr 3 0 0))],[(.live 3 [[(.vs (rows t.1)),(.int .i64 t.2.1),(.int .u64 t.2.2.1)]]),(.live 1 (rows t.2.2.2.1)),(.live 2 [[.es,.es]]),(.live 2 [[(ow 1 t.2.2.2.1.length),(ow 4 t.2.2.2.2.length)]]),(ob 1 t.2.2.2.2)]))
def spec_l25DrawNumbers_o72_l1_b (v5:List Int) (v2:List Bt) (v3:Int) (v4:Int) (v6:List Int) (v7:Int):Option ((List Bt×Int×Int×List Int×Int) ⊕ (List Bt×Int×Int×List Int×List Int)):=if v7 > 0 then (spec_l00Src_pick_o30 v2 v3 v4 9).bind fun r8=>(appL 8 v6 ((lit [(IntKind.i64.wrap (r8.2.2.2 - 3))]:List Int))).bind fun l9=>some (.inl (r8.1,r8.2.1,r8.2.2.1,l9,(IntKind.i64.wrap (v7 - 1)))) else some (.inr (v2,v3,v4,v5,v6))
theorem g6l1_b_eq  (v5:List Int) (v2:List Bt) (v3:Int) (v4:Int) (v6:List Int) (v7:Int):X g6_S g6l1_cb (keepEnv [0,4,5,6] [(0,(.ptr 0 0 0)),(4,(.ptr 2 0 0)),(5,(.ptr 3 0 0)),(6,(.int .i64 v7))]) [(.live 3 [[(.vs (rows v2)),(.int .i64 v3),(.int .u64 v4)]]),(.live 1 (rows v5)),(.live 2 [[.es,.es]]),(.live 2 [[(ow 1 v5.length),(ow 4 v6.length)]]),(ob 1 v6)]=(spec_l25DrawNumbers_o72_l1_b v5 v2 v3 v4 v6 v7).map (Sum.elim (fun s=>(TX.nrm,[(0,(.ptr 0 0 0)),(4,(.ptr 2 0 0)),(5,(.ptr 3 0 0)),(6,(.int .i64 s.2.2.2.2))],[(.live 3 [[(.vs (rows s.1)),(.int .i64 s.2.1),(.int .u64 s.2.2.1)]]),(.live 1 (rows v5)),(.live 2 [[.es,.es]]),(.live 2 [[(ow 1 v5.length),(ow 4 s.2.2.2.1.length)]]),(ob 1 s.2.2.2.1)])) g6l1_F):=by
  simp (maxSteps:=2000000) (maxDischargeDepth:=8) -implicitDefEqProofs [g6l1_cb,spec_l25DrawNumbers_o72_l1_b,bslV_lit (α:=Int) (zs:=[(.int .i64 0)])] <;> (try simp only [map_to_bind,some_elim,g6l1_F])
def spec_l25DrawNumbers_o72_l1 (v5:List Int) (s:List Bt×Int×Int×List Int×Int):Option (List Bt×Int×Int×List Int×List Int):=loopO (fun s=>spec_l25DrawNumbers_o72_l1_b v5 s.1 s.2.1 s.2.2.1 s.2.2.2.1 s.2.2.2.2) s
@[simp] theorem g6l1_eq (y0 y1 y2)(y3:List Int)(y4:List Int)(y5){n1:Nat}(h1:n1=y3.length){n2:Nat}(h2:n2=y4.length):X g6_S g6l1_c [(0,(.ptr 0 0 0)),(4,(.ptr 2 0 0)),(5,(.ptr 3 0 0)),(6,(.int .i64 y5))] [(.live 3 [[(.vs (rows y0)),(.int .i64 y1),(.int .u64 y2)]]),(.live 1 (rows y3)),(.live 2 [[.es,.es]]),(.live 2 [[(ow 1 n1),(ow 4 n2)]]),(ob 1 y4)]=(spec_l25DrawNumbers_o72_l1 y3 (y0,y1,y2,y4,y5)).map g6l1_F:=by
  subst h1 h2
  exact loop_X _ _ _ _ (by intro r;first | (simp;done) | (rcases r with r | r <;> simp;done) | (rcases r with r | r | r <;> simp;done) | (rcases r with r | r | r | r <;> simp)) (fun s=>g6l1_b_eq  y3 s.1 s.2.1 s.2.2.1 s.2.2.2.1 s.2.2.2.2) (y0,y1,y2,y4,y5)
@[simp] theorem g6l1_eq_4 (y0 y1 y2)(y3:List Int)(y4){n1:Nat}(h1:n1=y3.length):X g6_S g6l1_c [(0,(.ptr 0 0 0)),(4,(.ptr 2 0 0)),(5,(.ptr 3 0 0)),(6,(.int .i64 y4))] [(.live 3 [[(.vs (rows y0)),(.int .i64 y1),(.int .u64 y2)]]),(.live 1 (rows y3)),(.live 2 [[.es,.es]]),(.live 2 [[(ow 1 n1),.es]]),.dead]=(spec_l25DrawNumbers_o72_l1 y3 (y0,y1,y2,([]:List Int),y4)).map g6l1_F :=
  g6l1_eq  y0 y1 y2 y3 ([]:List Int) y4 h1 rfl
def spec_l25DrawNumbers_o72 (a1:List Bt) (a2:Int) (a3:Int) (a4:List Int):Option (List Bt×Int×Int×List Int×List Int):=(spec_l05Count a4).bind fun r1=>(spec_l25DrawNumbers_o72_l1 a4 ((a1,a2,a3,([]:List Int),r1))).bind fun r10=>some (r10.1,r10.2.1,r10.2.2.1,r10.2.2.2.1,r10.2.2.2.2)
@[simp] def g6_O:(List Bt×Int×Int×List Int×List Int)→TV×List Blk:=fun r=>((.agg [(ow 1 r.2.2.2.1.length),(ow 3 r.2.2.2.2.length)]),[(.live 3 [[(.vs (rows r.1)),(.int .i64 r.2.1),(.int .u64 r.2.2.1)]]),(.live 1 (rows r.2.2.2.1)),(.live 2 [[(ow 1 r.2.2.2.1.length),(ow 3 r.2.2.2.2.length)]]),(ob 1 r.2.2.2.2)])
abbrev g6_T:=List Bt×Int×Int×List Int
def g6_E (a:g6_T):List TV:=[(.ptr 0 0 0),(.hs 1 0 a.2.2.2.length true)]
def g6_B (a:g6_T):List Blk:=[(.live 3 [[(.vs (rows a.1)),(.int .i64 a.2.1),(.int .u64 a.2.2.1)]]),(.live 1 (rows a.2.2.2))]
theorem g6_run (a1:List Bt) (a2:Int) (a3:Int) (a4:List Int) :callFn (X g6_S) g6_tf (g6_E (a1,a2,a3,a4)) (g6_B (a1,a2,a3,a4))=(spec_l25DrawNumbers_o72 a1 a2 a3 a4).map g6_O:=by
  rw [callFn_eq]
  simp (maxSteps:=2000000) (maxDischargeDepth:=8) -implicitDefEqProofs [g6_tf,spec_l25DrawNumbers_o72,g6_E,g6_B,bslV_lit (α:=Int) (zs:=[(.int .i64 0)])] <;> (try simp only [map_to_bind,some_elim,g6_O])
def g6_r:MRule:=RmO g6_E g6_B (fun a=>(spec_l25DrawNumbers_o72 a.1 a.2.1 a.2.2.1 a.2.2.2).bind fun r=>if r.2.2.2.1.length=a.2.2.2.length then some (r.1,r.2.1,r.2.2.1,(fixLen a.2.2.2 r.2.2.2.1),r.2.2.2.2) else none) g6_O
theorem g6_ok0:MRuleOk Tryd.prog 68 2 (RmO g6_E g6_B (fun a=>spec_l25DrawNumbers_o72 a.1 a.2.1 a.2.2.1 a.2.2.2) g6_O):=ok_rmo (S:=g6_S) (tf:=g6_tf) (SysOk.on ⟨g33_ok,trivial⟩ ⟨g10_ok,trivial⟩) (trE_ok (ks:=[[0,4,5,6],[6,2000000,0,0,0,0,3,15,16,0,3,15,16]]) Tryd.func68 (by kernel_rfl)) (by rfl) (fun _=>by simp [g6_B]) (fun _=>by simp) fun a=>g6_run a.1 a.2.1 a.2.2.1 a.2.2.2
theorem g6_ok:MRuleOk Tryd.prog 68 2 g6_r:=g6_ok0.weak fun a r hr=>by
  simp only [Option.bind_eq_some_iff] at hr
  obtain ⟨x,h1,h2⟩:=hr
  split at h2
  · rename_i hc
    simp only [Option.some.injEq] at h2
    rw [h1,← h2]
    simp [fixLen,hc]
  · cases h2
@[simp] theorem g6_app (y0 y1 y2)(y3:List Int){n1:Nat}(h1:n1=y3.length):g6_r [(.ptr 0 0 0),(.hs 1 0 n1 true)] [(.live 3 [[(.vs (rows y0)),(.int .i64 y1),(.int .u64 y2)]]),(.live 1 (rows y3))]=((spec_l25DrawNumbers_o72 y0 y1 y2 y3).bind fun r=>if r.2.2.2.1.length=y3.length then some (r.1,r.2.1,r.2.2.1,(fixLen y3 r.2.2.2.1),r.2.2.2.2) else none).map g6_O:=by
  subst h1
  exact RmO_app (enc:=g6_E) (encB:=g6_B) (by intro a b h h2;simp [g6_E,g6_B,Prod.ext_iff] at h h2 ⊢;simp [h,h2]) (y0,y1,y2,y3)
/-! spec.E8Numbers -/
def g28_tf:TFn:=⟨(sq [oo 2 (.alloc [.nils,.nils]),oo 3 (.alloc [.nils,.nils])] [0,2,3] (sq [mo 9 0,ca 10 66 [.t 9],mo 4 10] [2,3,4] (sq [mo 11 4,oo 12 (.callM 67 0 [2] [.t 11,ki 5]),bn 13 .add (ki 1) (.t 12),mo 5 13] [2,3,4,5] (sq [mo 14 4,oo 15 (.callM 67 0 [2] [.t 14,ki 5]),bn 16 .add (ki 1) (.t 15),mo 6 16] [2,3,4,5,6] (sq [mo 17 4,mo 18 5,mo 19 6,oo 20 (.bslice [(.int .i64 0)] 2 [(0,(.t 18)),(1,(.t 19))]),oo 21 (.callM 68 0 [2,3] [.t 17,.t 20]),oo 7 (.alloc [.nils,.nils]),⟨none,none,(.store 2 (.t 7) (.t 21))⟩] [2,3,4,5,6,7] (sq [mo 22 4,mo 23 5,mo 24 6,oo 25 (.bslice [(.int .i64 0)] 2 [(0,(.t 23)),(1,(.t 24))]),oo 26 (.callM 68 0 [2,7] [.t 22,.t 25]),oo 8 (.alloc [.nils,.nils]),⟨none,none,(.store 2 (.t 8) (.t 26))⟩] [2,3,7,8] (.seq (.drawF [(none,ln 27 2 7),(none,ln 28 2 8),(some [28],⟨none,none,(.store 2 (.t 2) (.t 27))⟩)] [⟨none,none,(.store 2 (.t 3) (.t 28))⟩]) (.keep (kp [(2,0),(3,0)] [(0,2),(3,1),(5,1),(1,2),(7,1),(9,1)] 0) .ret)))))))),[.cell 2 (some 2),.cell 3 (some 2)]⟩
abbrev g28_S:=Sys.on [(66,g37_r)] [((67,0),(1,g10_r)),((68,0),(2,g6_r))]
def spec_E8Numbers (a_code:List Bt):Option ((List Int×List Int)×(List Int×List Int)):=(spec_l00From a_code).bind fun r1=>(spec_l00Src_pick_o30 r1.1 r1.2.1 r1.2.2 5).bind fun r2=>(spec_l00Src_pick_o30 r2.1 r2.2.1 r2.2.2.1 5).bind fun r3=>(spec_l25DrawNumbers_o72 r3.1 r3.2.1 r3.2.2.1 ((lit [(IntKind.i64.wrap (1+r2.2.2.2)),(IntKind.i64.wrap (1+r3.2.2.2))]:List Int))).bind fun r4=>if r4.2.2.2.1.length=((lit [(IntKind.i64.wrap (1+r2.2.2.2)),(IntKind.i64.wrap (1+r3.2.2.2))]:List Int)).length then (spec_l25DrawNumbers_o72 r4.1 r4.2.1 r4.2.2.1 ((lit [(IntKind.i64.wrap (1+r2.2.2.2)),(IntKind.i64.wrap (1+r3.2.2.2))]:List Int))).bind fun r5=>if r5.2.2.2.1.length=((lit [(IntKind.i64.wrap (1+r2.2.2.2)),(IntKind.i64.wrap (1+r3.2.2.2))]:List Int)).length then some (((fixLen ((lit [(IntKind.i64.wrap (1+r2.2.2.2)),(IntKind.i64.wrap (1+r3.2.2.2))]:List Int)) r4.2.2.2.1),r4.2.2.2.2),((fixLen ((lit [(IntKind.i64.wrap (1+r2.2.2.2)),(IntKind.i64.wrap (1+r3.2.2.2))]:List Int)) r5.2.2.2.1),r5.2.2.2.2)) else none else none
@[simp] def g28_O:((List Int×List Int)×(List Int×List Int))→TV×List Blk:=fun r=>((.tup [(.agg [(ow 1 r.1.1.length),(ow 2 r.1.2.length)]),(.agg [(ow 4 r.2.1.length),(ow 5 r.2.2.length)])]),[(.live 2 [[(ow 1 r.1.1.length),(ow 2 r.1.2.length)]]),(ob 1 r.1.1),(ob 1 r.1.2),(.live 2 [[(ow 4 r.2.1.length),(ow 5 r.2.2.length)]]),(ob 1 r.2.1),(ob 1 r.2.2)])
def g28_E (a:List Bt):List TV:=[(.vs (rows a))]
theorem g28_run (a_code:List Bt) :callFn (X g28_S) g28_tf (g28_E a_code) []=(spec_E8Numbers a_code).map g28_O:=by
  rw [callFn_eq]
  simp (maxSteps:=2000000) (maxDischargeDepth:=8) -implicitDefEqProofs [g28_tf,spec_E8Numbers,g28_E,bslV_lit (α:=Int) (zs:=[(.int .i64 0)])] <;> (try simp only [map_to_bind,some_elim,g28_O])
def g28_r:Rule:=RlO g28_E (fun a=>spec_E8Numbers a) g28_O
theorem g28_ok:RuleOk Tryd.prog 28 g28_r:=ok_rlo (S:=g28_S) (tf:=g28_tf) (SysOk.on ⟨g37_ok,trivial⟩ ⟨g10_ok,g6_ok,trivial⟩) (trE_ok (ks:=[[3,2000000,0,0,0,2,28]]) Tryd.func28 (by kernel_rfl)) fun a=>g28_run a
@[simp] theorem g28_app (y0):g28_r [(.vs (rows y0))]=(spec_E8Numbers y0).map g28_O :=
  RlO_app (enc:=g28_E) (by intro a b h;simp [g28_E,Prod.ext_iff] at h ⊢;simp [h]) y0
/-! impl.within -/
def g46_tf:TFn:=⟨(sq [mk 6 (kb false)] [0,1,2] (.seq (.after (.ops [mo 7 0,mo 8 1,bn 9 .geq (.t 7) (.t 8),mo 10 9,⟨(some 11),(some (10,true)),(.mv (.t 0))⟩,⟨(some 12),(some (10,true)),(.mv (.t 2))⟩,⟨(some 13),(some (10,true)),(.bin .num .leq (.t 11) (.t 12))⟩,pk 14 (.t 10) (.t 13) (kb false),mo 6 14]) (kp [(6,0)] [] 0)) (.keep (kp [(6,0)] [] 0) .ret))),[.t 6]⟩
abbrev g46_S:=Sys.on [] []
def impl_within (a_n:Int) (a_low:Int) (a_high:Int):Option (Bool):=if a_n ≥ a_low then some ((decide (a_n≤a_high))) else some false
@[simp] def g46_O:Bool→TV×List Blk:=fun r=>((.bool r),[])
def g46_E (a:Int×Int×Int):List TV:=[(.int .i64 a.1),(.int .i64 a.2.1),(.int .i64 a.2.2)]
theorem g46_run (a_n:Int) (a_low:Int) (a_high:Int) :callFn (X g46_S) g46_tf (g46_E (a_n,a_low,a_high)) []=(impl_within a_n a_low a_high).map g46_O:=by
  rw [callFn_eq]
  simp (maxSteps:=2000000) (maxDischargeDepth:=8) -implicitDefEqProofs [g46_tf,impl_within,g46_E] <;> (try simp only [map_to_bind,some_elim,g46_O])
def g46_r:Rule:=RlO g46_E (fun a=>impl_within a.1 a.2.1 a.2.2) g46_O
theorem g46_ok:RuleOk Tryd.prog 91 g46_r:=ok_rlo (S:=g46_S) (tf:=g46_tf) (SysOk.on trivial trivial) (trE_ok (ks:=[]) Tryd.func91 (by kernel_rfl)) fun a=>g46_run a.1 a.2.1 a.2.2
@[simp] theorem g46_app (y0 y1 y2):g46_r [(.int .i64 y0),(.int .i64 y1),(.int .i64 y2)]=(impl_within y0 y1 y2).map g46_O :=
  RlO_app (enc:=g46_E) (by intro a b h;simp [g46_E,Prod.ext_iff] at h ⊢;simp [h]) (y0,y1,y2)
/-! impl.allWithin.1 -/
def g16_tf:TFn:=⟨(sq [mk 4 (kb false)] [0,1,2] (.seq (.ops [mo 5 0,ld 6 1,ld 7 2,ca 8 91 [.t 5,.t 6,.t 7],nt 9 8,mo 4 9]) (.keep (kp [(4,0)] [] 0) .ret))),[.t 4]⟩
abbrev g16_S:=Sys.on [(91,g46_r)] []
def impl_allWithin_c1 (a_n:Int) (a_p:Int) (a_p':Int):Option (Bool):=(impl_within a_n a_p a_p').bind fun r1=>some ((!r1))
@[simp] def g16_O:Bool→TV×List Blk:=fun r=>((.bool r),[])
def g16_E (a:Int×Int×Int):List TV:=[(.int .i64 a.1),(.vp [(.int .i64 a.2.1)]),(.vp [(.int .i64 a.2.2)])]
theorem g16_run (a_n:Int) (a_p:Int) (a_p':Int) :callFn (X g16_S) g16_tf (g16_E (a_n,a_p,a_p')) []=(impl_allWithin_c1 a_n a_p a_p').map g16_O:=by
  rw [callFn_eq]
  simp (maxSteps:=2000000) (maxDischargeDepth:=8) -implicitDefEqProofs [g16_tf,impl_allWithin_c1,g16_E] <;> (try simp only [map_to_bind,some_elim,g16_O])
def g16_r:Rule:=RlO g16_E (fun a=>impl_allWithin_c1 a.1 a.2.1 a.2.2) g16_O
theorem g16_ok:RuleOk Tryd.prog 143 g16_r:=ok_rlo (S:=g16_S) (tf:=g16_tf) (SysOk.on ⟨g46_ok,trivial⟩ trivial) (trE_ok (ks:=[]) Tryd.func143 (by kernel_rfl)) fun a=>g16_run a.1 a.2.1 a.2.2
@[simp] theorem g16_app (y0 y1 y2):g16_r [(.int .i64 y0),(.vp [(.int .i64 y1)]),(.vp [(.int .i64 y2)])]=(impl_allWithin_c1 y0 y1 y2).map g16_O :=
  RlO_app (enc:=g16_E) (by intro a b h;simp [g16_E,Prod.ext_iff] at h ⊢;simp [h]) (y0,y1,y2)
/-! slices.IndexFunc[[]int64,int64] -/
def g1l1_cb:TC:=(sq [bn 9 .lss (.t 8) (.t 7)] [0,1,7,8,9] (.seq (.cond (.t 9) .skip (.keep (kp [] [] 0) (.exit 0))) (.trim [0,1,7,8] (.seq (.block 1 (sq [mo 10 8,mo 5 10] [0,1,5,7,8] (sq [mo 11 1,mo 12 0,mo 13 5,ia 14 1 12 13,ld 15 14,oo 16 (.callv (.t 11) [.t 15])] [0,1,5,7,8,16] (.cond (.t 16) (.seq (.ops [mo 17 5,mo 4 17]) (.keep (kp [(4,0)] [] 0) .ret)) .skip)))) (.trim [0,1,7,8] (.after (.ops [bn 18 .add (.t 8) (ki 1),mo 8 18]) (kp [(0,0),(1,0),(7,0),(8,0)] [] 0)))))))
def g1l1_c:TC:=.loop [0,1,7,8] g1l1_cb
def g1_tf:TFn:=⟨(sq [mk 4 (ki 0)] [0,1] (.seq (sq [mo 6 0,le 7 6,mk 8 (ki 0)] [0,1,7,8] (.block 0 (.keep (kp [(0,0),(1,0),(7,0),(8,0)] [] 0) g1l1_c))) (.trim [] (.seq (.ops [mk 4 (ki (-1))]) (.keep (kp [(4,0)] [] 0) .ret))))),[.t 4]⟩
abbrev g1_S:=Sys.on [(143,g16_r)] []
@[reducible,simp] def g1l1_F:((Unit) ⊕ (Int))→Out:=(Sum.elim (fun t=>(.ext 0,[],[])) (fun t=>(.ret,[(4,(.int .i64 t))],[])))
def slices_IndexFunc_int64_int64__allWithin_c1_l1_b (v1:List Int) (v2:Int) (v3:Int) (v4:Int) (v5:Int):Option ((Int) ⊕ ((Unit) ⊕ (Int))):=if v5 < v4 then if 0≤v5 then (v1[(v5).toNat]?).bind fun x6=>(impl_allWithin_c1 x6 v2 v3).bind fun r7=>if r7=true then some (.inr (.inr v5)) else some (.inl ((IntKind.i64.wrap (v5+1)))) else none else some (.inr (.inl ()))
theorem g1l1_b_eq  (v1:List Int) (v2:Int) (v3:Int) (v4:Int) (v5:Int):X g1_S g1l1_cb (keepEnv [0,1,7,8] [(0,(.vs (rows v1))),(1,(.fn 143 [] [(.vp [(.int .i64 v2)]),(.vp [(.int .i64 v3)])])),(7,(.int .i64 v4)),(8,(.int .i64 v5))]) []=(slices_IndexFunc_int64_int64__allWithin_c1_l1_b v1 v2 v3 v4 v5).map (Sum.elim (fun s=>(TX.nrm,[(0,(.vs (rows v1))),(1,(.fn 143 [] [(.vp [(.int .i64 v2)]),(.vp [(.int .i64 v3)])])),(7,(.int .i64 v4)),(8,(.int .i64 s))],[])) g1l1_F):=by
  simp (maxSteps:=2000000) (maxDischargeDepth:=8) -implicitDefEqProofs [g1l1_cb,slices_IndexFunc_int64_int64__allWithin_c1_l1_b] <;> (try simp only [map_to_bind,some_elim,g1l1_F])
def slices_IndexFunc_int64_int64__allWithin_c1_l1 (v1:List Int) (v2:Int) (v3:Int) (v4:Int) (s:Int):Option ((Unit) ⊕ (Int)):=loopO (fun s=>slices_IndexFunc_int64_int64__allWithin_c1_l1_b v1 v2 v3 v4 s) s
@[simp] theorem g1l1_eq (y0 y1 y2 y3 y4):X g1_S g1l1_c [(0,(.vs (rows y0))),(1,(.fn 143 [] [(.vp [(.int .i64 y1)]),(.vp [(.int .i64 y2)])])),(7,(.int .i64 y3)),(8,(.int .i64 y4))] []=(slices_IndexFunc_int64_int64__allWithin_c1_l1 y0 y1 y2 y3 y4).map g1l1_F:=by
  exact loop_X _ _ _ _ (by intro r;first | (simp;done) | (rcases r with r | r <;> simp;done) | (rcases r with r | r | r <;> simp;done) | (rcases r with r | r | r | r <;> simp)) (fun s=>g1l1_b_eq  y0 y1 y2 y3 s) y4
def slices_IndexFunc_int64_int64__allWithin_c1 (a_s:List Int) (a_f:Int) (a_f':Int):Option (Int):=(slices_IndexFunc_int64_int64__allWithin_c1_l1 a_s a_f a_f' ((a_s.length:Int)) 0).bind fun r8=>Sum.elim (fun u9=>some ((-1))) (fun u10=>some u10) r8
@[simp] def g1_O:Int→TV×List Blk:=fun r=>((.int .i64 r),[])
def g1_E (a:List Int×Int×Int):List TV:=[(.vs (rows a.1)),(.fn 143 [] [(.vp [(.int .i64 a.2.1)]),(.vp [(.int .i64 a.2.2)])])]
theorem g1_run (a_s:List Int) (a_f:Int) (a_f':Int) :callFn (X g1_S) g1_tf (g1_E (a_s,a_f,a_f')) []=(slices_IndexFunc_int64_int64__allWithin_c1 a_s a_f a_f').map g1_O:=by
  rw [callFn_eq]
  simp (maxSteps:=2000000) (maxDischargeDepth:=8) -implicitDefEqProofs [g1_tf,slices_IndexFunc_int64_int64__allWithin_c1,g1_E] <;> (try simp only [map_to_bind,some_elim,g1_O])
def g1_r:Rule:=RlO g1_E (fun a=>slices_IndexFunc_int64_int64__allWithin_c1 a.1 a.2.1 a.2.2) g1_O
theorem g1_ok:RuleOk Tryd.prog 160 g1_r:=ok_rlo (S:=g1_S) (tf:=g1_tf) (SysOk.on ⟨g16_ok,trivial⟩ trivial) (trE_ok (ks:=[[0,1,7,8]]) Tryd.func160 (by kernel_rfl)) fun a=>g1_run a.1 a.2.1 a.2.2
@[simp] theorem g1_app (y0 y1 y2):g1_r [(.vs (rows y0)),(.fn 143 [] [(.vp [(.int .i64 y1)]),(.vp [(.int .i64 y2)])])]=(slices_IndexFunc_int64_int64__allWithin_c1 y0 y1 y2).map g1_O :=
  RlO_app (enc:=g1_E) (by intro a b h;simp [g1_E,Prod.ext_iff] at h ⊢;simp [h]) (y0,y1,y2)
/-! slices.ContainsFunc[[]int64,int64] -/
def g0_tf:TFn:=⟨(sq [mk 4 (kb false)] [0,1] (.seq (.ops [mo 5 0,mo 6 1,ca 7 160 [.t 5,.t 6],bn 8 .geq (.t 7) (ki 0),mo 4 8]) (.keep (kp [(4,0)] [] 0) .ret))),[.t 4]⟩
abbrev g0_S:=Sys.on [(160,g1_r)] []
def slices_ContainsFunc_int64_int64__allWithin_c1 (a_s:List Int) (a_f:Int) (a_f':Int):Option (Bool):=(slices_IndexFunc_int64_int64__allWithin_c1 a_s a_f a_f').bind fun r1=>some ((decide (r1 ≥ 0)))
@[simp] def g0_O:Bool→TV×List Blk:=fun r=>((.bool r),[])
def g0_E (a:List Int×Int×Int):List TV:=[(.vs (rows a.1)),(.fn 143 [] [(.vp [(.int .i64 a.2.1)]),(.vp [(.int .i64 a.2.2)])])]
theorem g0_run (a_s:List Int) (a_f:Int) (a_f':Int) :callFn (X g0_S) g0_tf (g0_E (a_s,a_f,a_f')) []=(slices_ContainsFunc_int64_int64__allWithin_c1 a_s a_f a_f').map g0_O:=by
  rw [callFn_eq]
  simp (maxSteps:=2000000) (maxDischargeDepth:=8) -implicitDefEqProofs [g0_tf,slices_ContainsFunc_int64_int64__allWithin_c1,g0_E] <;> (try simp only [map_to_bind,some_elim,g0_O])
def g0_r:Rule:=RlO g0_E (fun a=>slices_ContainsFunc_int64_int64__allWithin_c1 a.1 a.2.1 a.2.2) g0_O
theorem g0_ok:RuleOk Tryd.prog 142 g0_r:=ok_rlo (S:=g0_S) (tf:=g0_tf) (SysOk.on ⟨g1_ok,trivial⟩ trivial) (trE_ok (ks:=[]) Tryd.func142 (by kernel_rfl)) fun a=>g0_run a.1 a.2.1 a.2.2
@[simp] theorem g0_app (y0 y1 y2):g0_r [(.vs (rows y0)),(.fn 143 [] [(.vp [(.int .i64 y1)]),(.vp [(.int .i64 y2)])])]=(slices_ContainsFunc_int64_int64__allWithin_c1 y0 y1 y2).map g0_O :=
  RlO_app (enc:=g0_E) (by intro a b h;simp [g0_E,Prod.ext_iff] at h ⊢;simp [h]) (y0,y1,y2)
/-! impl.allWithin -/
def g29_tf:TFn:=⟨(sq [bx 4 1,bx 5 2,mk 6 (kb false)] [0,4,5] (.seq (.ops [mo 7 0,oo 8 (.mkfn 143 [] [.t 4,.t 5]),ca 9 142 [.t 7,.t 8],nt 10 9,mo 6 10]) (.keep (kp [(6,0)] [] 0) .ret))),[.t 6]⟩
abbrev g29_S:=Sys.on [(142,g0_r)] []
def impl_allWithin (a_list:List Int) (a_low:Int) (a_high:Int):Option (Bool):=(slices_ContainsFunc_int64_int64__allWithin_c1 a_list a_low a_high).bind fun r1=>some ((!r1))
@[simp] def g29_O:Bool→TV×List Blk:=fun r=>((.bool r),[])
def g29_E (a:List Int×Int×Int):List TV:=[(.vs (rows a.1)),(.int .i64 a.2.1),(.int .i64 a.2.2)]
theorem g29_run (a_list:List Int) (a_low:Int) (a_high:Int) :callFn (X g29_S) g29_tf (g29_E (a_list,a_low,a_high)) []=(impl_allWithin a_list a_low a_high).map g29_O:=by
  rw [callFn_eq]
  simp (maxSteps:=2000000) (maxDischargeDepth:=8) -implicitDefEqProofs [g29_tf,impl_allWithin,g29_E] <;> (try simp only [map_to_bind,some_elim,g29_O])
def g29_r:Rule:=RlO g29_E (fun a=>impl_allWithin a.1 a.2.1 a.2.2) g29_O
theorem g29_ok:RuleOk Tryd.prog 108 g29_r:=ok_rlo (S:=g29_S) (tf:=g29_tf) (SysOk.on ⟨g0_ok,trivial⟩ trivial) (trE_ok (ks:=[]) Tryd.func108 (by kernel_rfl)) fun a=>g29_run a.1 a.2.1 a.2.2
@[simp] theorem g29_app (y0 y1 y2):g29_r [(.vs (rows y0)),(.int .i64 y1),(.int .i64 y2)]=(impl_allWithin y0 y1 y2).map g29_O :=
  RlO_app (enc:=g29_E) (by intro a b h;simp [g29_E,Prod.ext_iff] at h ⊢;simp [h]) (y0,y1,y2)
/-! impl.product -/
def g38l1_cb:TC:=(sq [bn 9 .lss (.t 8) (.t 7)] [3,6,7,8,9] (.seq (.cond (.t 9) .skip (.keep (kp [(3,0)] [] 0) (.exit 0))) (.trim [3,6,7,8] (.seq (.block 1 (sq [ia 10 1 6 8,ld 11 10,mo 5 11] [3,5,6,7,8] (.ops [mo 12 3,mo 13 5,bn 14 .mul (.t 12) (.t 13),mo 3 14]))) (.trim [3,6,7,8] (.after (.ops [bn 15 .add (.t 8) (ki 1),mo 8 15]) (kp [(3,0),(6,0),(7,0),(8,0)] [] 0)))))))
def g38l1_c:TC:=.loop [3,6,7,8] g38l1_cb
def g38_tf:TFn:=⟨(sq [mk 2 (ki 0)] [0] (sq [mk 3 (ki 1)] [0,3] (.seq (sq [mo 6 0,le 7 6,mk 8 (ki 0)] [3,6,7,8] (.block 0 (.keep (kp [(3,0),(6,0),(7,0),(8,0)] [] 0) g38l1_c))) (.trim [3] (.seq (.ops [mo 16 3,mo 2 16]) (.keep (kp [(2,0)] [] 0) .ret)))))),[.t 2]⟩
abbrev g38_S:=Sys.on [] []
@[reducible,simp] def g38l1_F:Int→Out:=(fun t=>(.ext 0,[(3,(.int .i64 t))],[]))
def impl_product_l1_b (v2:List Int) (v3:Int) (v1:Int) (v4:Int):Option ((Int×Int) ⊕ (Int)):=if v4 < v3 then if 0≤v4 then (v2[(v4).toNat]?).bind fun x5=>some (.inl ((IntKind.i64.wrap (v1 * x5)),(IntKind.i64.wrap (v4+1)))) else none else some (.inr v1)
theorem g38l1_b_eq  (v2:List Int) (v3:Int) (v1:Int) (v4:Int):X g38_S g38l1_cb (keepEnv [3,6,7,8] [(3,(.int .i64 v1)),(6,(.vs (rows v2))),(7,(.int .i64 v3)),(8,(.int .i64 v4))]) []=(impl_product_l1_b v2 v3 v1 v4).map (Sum.elim (fun s=>(TX.nrm,[(3,(.int .i64 s.1)),(6,(.vs (rows v2))),(7,(.int .i64 v3)),(8,(.int .i64 s.2))],[])) g38l1_F):=by
  simp (maxSteps:=2000000) (maxDischargeDepth:=8) -implicitDefEqProofs [g38l1_cb,impl_product_l1_b] <;> (try simp only [map_to_bind,some_elim,g38l1_F])
def impl_product_l1 (v2:List Int) (v3:Int) (s:Int×Int):Option (Int):=loopO (fun s=>impl_product_l1_b v2 v3 s.1 s.2) s
@[simp] theorem g38l1_eq (y0 y1 y2 y3):X g38_S g38l1_c [(3,(.int .i64 y0)),(6,(.vs (rows y1))),(7,(.int .i64 y2)),(8,(.int .i64 y3))] []=(impl_product_l1 y1 y2 (y0,y3)).map g38l1_F:=by
  exact loop_X _ _ _ _ (by intro r;first | (simp;done) | (rcases r with r | r <;> simp;done) | (rcases r with r | r | r <;> simp;done) | (rcases r with r | r | r | r <;> simp)) (fun s=>g38l1_b_eq  y1 y2 s.1 s.2) (y0,y3)
def impl_product (a_list:List Int):Option (Int):=(impl_product_l1 a_list ((a_list.length:Int)) ((1,0))).bind fun r6=>some r6
@[simp] def g38_O:Int→TV×List Blk:=fun r=>((.int .i64 r),[])
def g38_E (a:List Int):List TV:=[(.vs (rows a))]
theorem g38_run (a_list:List Int) :callFn (X g38_S) g38_tf (g38_E a_list) []=(impl_product a_list).map g38_O:=by
  rw [callFn_eq]
  simp (maxSteps:=2000000) (maxDischargeDepth:=8) -implicitDefEqProofs [g38_tf,impl_product,g38_E] <;> (try simp only [map_to_bind,some_elim,g38_O])
def g38_r:Rule:=RlO g38_E (fun a=>impl_product a) g38_O
theorem g38_ok:RuleOk Tryd.prog 107 g38_r:=ok_rlo (S:=g38_S) (tf:=g38_tf) (SysOk.on trivial trivial) (trE_ok (ks:=[[3,6,7,8]]) Tryd.func107 (by kernel_rfl)) fun a=>g38_run a
@[simp] theorem g38_app (y0):g38_r [(.vs (rows y0))]=(impl_product y0).map g38_O :=
  RlO_app (enc:=g38_E) (by intro a b h;simp [g38_E,Prod.ext_iff] at h ⊢;simp [h]) y0
/-! impl.ValidDims -/
def g30_tf:TFn:=⟨(sq [mk 2 (kb false)] [0] (.seq (.after (.ops [mo 3 0,le 4 3,bn 5 .leq (.t 4) (ki 3),mo 6 5,⟨(some 7),(some (6,true)),(.mv (.t 0))⟩,⟨(some 8),(some (6,true)),(.call 108 [.t 7,ki 0,ki 40])⟩,pk 9 (.t 6) (.t 8) (kb false),mo 10 9,⟨(some 11),(some (10,true)),(.mv (.t 0))⟩,⟨(some 12),(some (10,true)),(.call 107 [.t 11])⟩,⟨(some 13),(some (10,true)),(.bin .num .leq (.t 12) (ki 600))⟩,pk 14 (.t 10) (.t 13) (kb false),mo 2 14]) (kp [(2,0)] [] 0)) (.keep (kp [(2,0)] [] 0) .ret))),[.t 2]⟩
abbrev g30_S:=Sys.on [(108,g29_r),(107,g38_r)] []
def impl_ValidDims (a_dims:List Int):Option (Bool):=if (a_dims.length:Int)≤3 then (impl_allWithin a_dims 0 40).bind fun r1=>if r1=true then (impl_product a_dims).bind fun r2=>some ((decide (r2≤600))) else some false else some false
@[simp] def g30_O:Bool→TV×List Blk:=fun r=>((.bool r),[])
def g30_E (a:List Int):List TV:=[(.vs (rows a))]
theorem g30_run (a_dims:List Int) :callFn (X g30_S) g30_tf (g30_E a_dims) []=(impl_ValidDims a_dims).map g30_O:=by
  rw [callFn_eq]
  simp (maxSteps:=2000000) (maxDischargeDepth:=8) -implicitDefEqProofs [g30_tf,impl_ValidDims,g30_E] <;> (try simp only [map_to_bind,some_elim,g30_O])
def g30_r:Rule:=RlO g30_E (fun a=>impl_ValidDims a) g30_O
theorem g30_ok:RuleOk Tryd.prog 90 g30_r:=ok_rlo (S:=g30_S) (tf:=g30_tf) (SysOk.on ⟨g29_ok,g38_ok,trivial⟩ trivial) (trE_ok (ks:=[]) Tryd.func90 (by kernel_rfl)) fun a=>g30_run a
@[simp] theorem g30_app (y0):g30_r [(.vs (rows y0))]=(impl_ValidDims y0).map g30_O :=
  RlO_app (enc:=g30_E) (by intro a b h;simp [g30_E,Prod.ext_iff] at h ⊢;simp [h]) y0
end
end Go.Proofs.TM
