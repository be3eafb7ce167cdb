/- Functions of the program, as functions of their data: written by program. -/
import Derived.Test.YtlajjnljeebkkaaDoorNT1
namespace Go.Proofs.TM
open Go Go.Proofs
set_option linter.unusedVariables false
set_option linter.unusedSimpArgs false
set_option maxHeartbeats 1000000
attribute [-simp] Option.map_bind strV_some
attribute [simp] guardOn_bool sA_bslice Function.comp_def
noncomputable section
/-! spec.l00Same -/
def g41l1_cb:TC:=(.seq (sq [mo 11 5,mo 12 0,le 13 12,bn 14 .lss (.t 11) (.t 13)] [0,1,5,14] (.cond (.t 14) .skip (.keep (kp [] [] 0) (.exit 0)))) (.trim [0,1,5] (.seq (.block 1 (.seq (.draw [([],mo 17 0),([],mo 18 5),([0,1],ia 19 1 17 18),([0,1,2],ld 20 19),([],mo 21 1),([],mo 22 5),([4,5],ia 23 1 21 22),([4,5,6],ld 24 23)] [bn 25 .neq (.t 20) (.t 24)]) (.trim [0,1,5,25] (.cond (.t 25) (.seq (.ops [mk 4 (kb false)]) (.keep (kp [(4,0)] [] 0) .ret)) .skip)))) (.trim [0,1,5] (.after (.ops [mo 15 5,bn 16 .add (.t 15) (ki 1),mo 5 16]) (kp [(0,0),(1,0),(5,0)] [] 0))))))
def g41l1_c:TC:=.loop [0,1,5] g41l1_cb
def g41_tf:TFn:=⟨(sq [mk 4 (kb false)] [0,1] (.seq (sq [mo 6 0,le 7 6,mo 8 1,le 9 8,bn 10 .neq (.t 7) (.t 9)] [0,1,10] (.cond (.t 10) (.seq (.ops [mk 4 (kb false)]) (.keep (kp [(4,0)] [] 0) .ret)) .skip)) (.trim [0,1] (.seq (sq [mk 5 (ki 0)] [0,1,5] (.block 0 (.keep (kp [(0,0),(1,0),(5,0)] [] 0) g41l1_c))) (.trim [] (.seq (.ops [mk 4 (kb true)]) (.keep (kp [(4,0)] [] 0) .ret))))))),[.t 4]⟩
abbrev g41_S:=Sys.on [] []
@[reducible,simp] def g41l1_F:((Unit) ⊕ (Bool))→Out:=(Sum.elim (fun t=>(.ext 0,[],[])) (fun t=>(.ret,[(4,(.bool t))],[])))
def spec_l00Same_l1_b (v1:List Int) (v2:List Int) (v3:Int):Option ((Int) ⊕ ((Unit) ⊕ (Bool))):=if v3 < (v1.length:Int) then if 0≤v3 then (v1[(v3).toNat]?).bind fun x4=>if 0≤v3 then (v2[(v3).toNat]?).bind fun x5=>if ¬(x4=x5) then some (.inr (.inr false)) else some (.inl ((IntKind.i64.wrap (v3+1)))) else none else none else some (.inr (.inl ()))
theorem g41l1_b_eq  (v1:List Int) (v2:List Int) (v3:Int):X g41_S g41l1_cb (keepEnv [0,1,5] [(0,(.vs (rows v1))),(1,(.vs (rows v2))),(5,(.int .i64 v3))]) []=(spec_l00Same_l1_b v1 v2 v3).map (Sum.elim (fun s=>(TX.nrm,[(0,(.vs (rows v1))),(1,(.vs (rows v2))),(5,(.int .i64 s))],[])) g41l1_F):=by
  simp (maxSteps:=2000000) (maxDischargeDepth:=8) -implicitDefEqProofs [g41l1_cb,spec_l00Same_l1_b] <;> (try simp only [map_to_bind,some_elim,g41l1_F])
def spec_l00Same_l1 (v1:List Int) (v2:List Int) (s:Int):Option ((Unit) ⊕ (Bool)):=loopO (fun s=>spec_l00Same_l1_b v1 v2 s) s
@[simp] theorem g41l1_eq (y0 y1 y2):X g41_S g41l1_c [(0,(.vs (rows y0))),(1,(.vs (rows y1))),(5,(.int .i64 y2))] []=(spec_l00Same_l1 y0 y1 y2).map g41l1_F:=by
  exact loop_X _ _ _ _ (by intro r;first | (simp;done) | (rcases r with r | r <;> simp;done) | (rcases r with r | r | r <;> simp;done) | (rcases r with r | r | r | r <;> simp)) (fun s=>g41l1_b_eq  y0 y1 s) y2
def spec_l00Same (a_a:List Int) (a_b:List Int):Option (Bool):=if ¬((a_a.length:Int)=(a_b.length:Int)) then some false else (spec_l00Same_l1 a_a a_b 0).bind fun r6=>Sum.elim (fun u7=>some true) (fun u8=>some u8) r6
@[simp] def g41_O:Bool→TV×List Blk:=fun r=>((.bool r),[])
def g41_E (a:List Int×List Int):List TV:=[(.vs (rows a.1)),(.vs (rows a.2))]
theorem g41_run (a_a:List Int) (a_b:List Int) :callFn (X g41_S) g41_tf (g41_E (a_a,a_b)) []=(spec_l00Same a_a a_b).map g41_O:=by
  rw [callFn_eq]
  simp (maxSteps:=2000000) (maxDischargeDepth:=8) -implicitDefEqProofs [g41_tf,spec_l00Same,g41_E] <;> (try simp only [map_to_bind,some_elim,g41_O])
def g41_r:Rule:=RlO g41_E (fun a=>spec_l00Same a.1 a.2) g41_O
theorem g41_ok:RuleOk Tryd.prog 69 g41_r:=ok_rlo (S:=g41_S) (tf:=g41_tf) (SysOk.on trivial trivial) (trE_ok (ks:=[[0,1,5],[8]]) Tryd.func69 (by kernel_rfl)) fun a=>g41_run a.1 a.2
@[simp] theorem g41_app (y0 y1):g41_r [(.vs (rows y0)),(.vs (rows y1))]=(spec_l00Same y0 y1).map g41_O :=
  RlO_app (enc:=g41_E) (by intro a b h;simp [g41_E,Prod.ext_iff] at h ⊢;simp [h]) (y0,y1)
/-! spec.SameNumbers -/
def g26_tf:TFn:=⟨(sq [bx 2 0,bx 3 1,mk 4 (kb false)] [2,3] (.seq (.after (.ops [fa 5 0 2,ld 6 5,fa 7 0 3,ld 8 7,ca 9 69 [.t 6,.t 8],mo 10 9,⟨(some 11),(some (10,true)),(.faddr 1 (.t 2))⟩,⟨(some 12),(some (10,true)),(.load none (.t 11))⟩,⟨(some 13),(some (10,true)),(.faddr 1 (.t 3))⟩,⟨(some 14),(some (10,true)),(.load none (.t 13))⟩,⟨(some 15),(some (10,true)),(.call 69 [.t 12,.t 14])⟩,pk 16 (.t 10) (.t 15) (kb false),mo 4 16]) (kp [(4,0)] [] 0)) (.keep (kp [(4,0)] [] 0) .ret))),[.t 4]⟩
abbrev g26_S:=Sys.on [(69,g41_r)] []
def spec_SameNumbers (a_a:List Int×List Int) (a_b:List Int×List Int):Option (Bool):=(spec_l00Same a_a.1 a_b.1).bind fun r1=>if r1=true then (spec_l00Same a_a.2 a_b.2).bind fun r2=>some r2 else some false
@[simp] def g26_O:Bool→TV×List Blk:=fun r=>((.bool r),[])
def g26_E (a:(List Int×List Int)×(List Int×List Int)):List TV:=[(.agg [(.vs (rows a.1.1)),(.vs (rows a.1.2))]),(.agg [(.vs (rows a.2.1)),(.vs (rows a.2.2))])]
theorem g26_run (a_a:List Int×List Int) (a_b:List Int×List Int) :callFn (X g26_S) g26_tf (g26_E (a_a,a_b)) []=(spec_SameNumbers a_a a_b).map g26_O:=by
  rw [callFn_eq]
  simp (maxSteps:=2000000) (maxDischargeDepth:=8) -implicitDefEqProofs [g26_tf,spec_SameNumbers,g26_E] <;> (try simp only [map_to_bind,some_elim,g26_O])
def g26_r:Rule:=RlO g26_E (fun a=>spec_SameNumbers a.1 a.2) g26_O
theorem g26_ok:RuleOk Tryd.prog 30 g26_r:=ok_rlo (S:=g26_S) (tf:=g26_tf) (SysOk.on ⟨g41_ok,trivial⟩ trivial) (trE_ok (ks:=[]) Tryd.func30 (by kernel_rfl)) fun a=>g26_run a.1 a.2
@[simp] theorem g26_app (y0 y1 y2 y3):g26_r [(.agg [(.vs (rows y0)),(.vs (rows y1))]),(.agg [(.vs (rows y2)),(.vs (rows y3))])]=(spec_SameNumbers ((y0,y1)) ((y2,y3))).map g26_O :=
  RlO_app (enc:=g26_E) (by intro a b h;simp [g26_E,Prod.ext_iff] at h ⊢;simp [h]) ((y0,y1),(y2,y3))
/-! (*spec.l00Src).among -/
def g8_tf:TFn:=⟨(sq [mk 4 (ki 0)] [0,1] (.seq (.ops [mo 5 1,mo 6 0,mo 7 1,le 8 7,oo 9 (.callM 67 0 [0] [.t 6,.t 8]),ia 10 1 5 9,ld 11 10,mo 4 11]) (.keep (kp [(4,0)] [(0,0),(1,0)] 2) .ret))),[.t 4]⟩
abbrev g8_S:=Sys.on [] [((67,0),(1,g10_r))]
def spec_l00Src_among_o72 (a1:List Bt) (a2:Int) (a3:Int) (a4:List Int):Option (List Bt×Int×Int×List Int×Int):=(spec_l00Src_pick_o30 a1 a2 a3 (((a4.length:Nat):Int))).bind fun r1=>if 0≤r1.2.2.2∧r1.2.2.2 < ((a4.length:Nat):Int) then (a4[(r1.2.2.2).toNat]?).bind fun x2=>some (r1.1,r1.2.1,r1.2.2.1,a4,x2) else none
@[simp] def g8_O:(List Bt×Int×Int×List Int×Int)→TV×List Blk:=fun r=>((.int .i64 r.2.2.2.2),[(.live 3 [[(.vs (rows r.1)),(.int .i64 r.2.1),(.int .u64 r.2.2.1)]]),(.live 1 (rows r.2.2.2.1))])
abbrev g8_T:=List Bt×Int×Int×List Int
def g8_E (a:g8_T):List TV:=[(.ptr 0 0 0),(.hs 1 0 a.2.2.2.length true)]
def g8_B (a:g8_T):List Blk:=[(.live 3 [[(.vs (rows a.1)),(.int .i64 a.2.1),(.int .u64 a.2.2.1)]]),(.live 1 (rows a.2.2.2))]
theorem g8_run (a1:List Bt) (a2:Int) (a3:Int) (a4:List Int) :callFn (X g8_S) g8_tf (g8_E (a1,a2,a3,a4)) (g8_B (a1,a2,a3,a4))=(spec_l00Src_among_o72 a1 a2 a3 a4).map g8_O:=by
  rw [callFn_eq]
  simp (maxSteps:=2000000) (maxDischargeDepth:=8) -implicitDefEqProofs [g8_tf,spec_l00Src_among_o72,g8_E,g8_B] <;> (try simp only [map_to_bind,some_elim,g8_O])
def g8_r:MRule:=RmO g8_E g8_B (fun a=>(spec_l00Src_among_o72 a.1 a.2.1 a.2.2.1 a.2.2.2).bind fun r=>if r.2.2.2.1.length=a.2.2.2.length then some (r.1,r.2.1,r.2.2.1,(fixLen a.2.2.2 r.2.2.2.1),r.2.2.2.2) else none) g8_O
theorem g8_ok0:MRuleOk Tryd.prog 111 2 (RmO g8_E g8_B (fun a=>spec_l00Src_among_o72 a.1 a.2.1 a.2.2.1 a.2.2.2) g8_O):=ok_rmo (S:=g8_S) (tf:=g8_tf) (SysOk.on trivial ⟨g10_ok,trivial⟩) (trE_ok (ks:=[]) Tryd.func111 (by kernel_rfl)) (by rfl) (fun _=>by simp [g8_B]) (fun _=>by simp) fun a=>g8_run a.1 a.2.1 a.2.2.1 a.2.2.2
theorem g8_ok:MRuleOk Tryd.prog 111 2 g8_r:=g8_ok0.weak fun a r hr=>by
  simp only [Option.bind_eq_some_iff] at hr
  obtain ⟨x,h1,h2⟩:=hr
  split at h2
  · rename_i hc
    simp only [Option.some.injEq] at h2
    rw [h1,← h2]
    simp [fixLen,hc]
  · cases h2
@[simp] theorem g8_app (y0 y1 y2)(y3:List Int){n1:Nat}(h1:n1=y3.length):g8_r [(.ptr 0 0 0),(.hs 1 0 n1 true)] [(.live 3 [[(.vs (rows y0)),(.int .i64 y1),(.int .u64 y2)]]),(.live 1 (rows y3))]=((spec_l00Src_among_o72 y0 y1 y2 y3).bind fun r=>if r.2.2.2.1.length=y3.length then some (r.1,r.2.1,r.2.2.1,(fixLen y3 r.2.2.2.1),r.2.2.2.2) else none).map g8_O:=by
  subst h1
  exact RmO_app (enc:=g8_E) (encB:=g8_B) (by intro a b h h2;simp [g8_E,g8_B,Prod.ext_iff] at h h2 ⊢;simp [h,h2]) (y0,y1,y2,y3)
/-! (*spec.l00Src).one -/
def g14_tf:TFn:=⟨(sq [mk 4 (kb false)] [0,1] (.seq (.ops [mo 5 0,mo 6 1,oo 7 (.callM 67 0 [0] [.t 5,.t 6]),bn 8 .eql (.t 7) (ki 0),mo 4 8]) (.keep (kp [(4,0)] [(0,0)] 1) .ret))),[.t 4]⟩
abbrev g14_S:=Sys.on [] [((67,0),(1,g10_r))]
def spec_l00Src_one_o30 (a1:List Bt) (a2:Int) (a3:Int) (a4:Int):Option (List Bt×Int×Int×Bool):=(spec_l00Src_pick_o30 a1 a2 a3 a4).bind fun r1=>some (r1.1,r1.2.1,r1.2.2.1,(decide (r1.2.2.2=0)))
@[simp] def g14_O:(List Bt×Int×Int×Bool)→TV×List Blk:=fun r=>((.bool r.2.2.2),[(.live 3 [[(.vs (rows r.1)),(.int .i64 r.2.1),(.int .u64 r.2.2.1)]])])
abbrev g14_T:=List Bt×Int×Int×Int
def g14_E (a:g14_T):List TV:=[(.ptr 0 0 0),(.int .i64 a.2.2.2)]
def g14_B (a:g14_T):List Blk:=[(.live 3 [[(.vs (rows a.1)),(.int .i64 a.2.1),(.int .u64 a.2.2.1)]])]
theorem g14_run (a1:List Bt) (a2:Int) (a3:Int) (a4:Int) :callFn (X g14_S) g14_tf (g14_E (a1,a2,a3,a4)) (g14_B (a1,a2,a3,a4))=(spec_l00Src_one_o30 a1 a2 a3 a4).map g14_O:=by
  rw [callFn_eq]
  simp (maxSteps:=2000000) (maxDischargeDepth:=8) -implicitDefEqProofs [g14_tf,spec_l00Src_one_o30,g14_E,g14_B] <;> (try simp only [map_to_bind,some_elim,g14_O])
def g14_r:MRule:=RmO g14_E g14_B (fun a=>spec_l00Src_one_o30 a.1 a.2.1 a.2.2.1 a.2.2.2) g14_O
theorem g14_ok:MRuleOk Tryd.prog 144 1 g14_r:=ok_rmo (S:=g14_S) (tf:=g14_tf) (SysOk.on trivial ⟨g10_ok,trivial⟩) (trE_ok (ks:=[]) Tryd.func144 (by kernel_rfl)) (by rfl) (fun _=>by simp [g14_B]) (fun _=>by simp) fun a=>g14_run a.1 a.2.1 a.2.2.1 a.2.2.2
@[simp] theorem g14_app (y0 y1 y2 y3):g14_r [(.ptr 0 0 0),(.int .i64 y3)] [(.live 3 [[(.vs (rows y0)),(.int .i64 y1),(.int .u64 y2)]])]=(spec_l00Src_one_o30 y0 y1 y2 y3).map g14_O:=by
  exact RmO_app (enc:=g14_E) (encB:=g14_B) (by intro a b h h2;simp [g14_E,g14_B,Prod.ext_iff] at h h2 ⊢;simp [h,h2]) (y0,y1,y2,y3)
/-! spec.l05Draw -/
def g27p2_c:TC:=(.after (.ops [mo 19 5,mo 20 6,oo 21 (.bslice [(.int .i64 0)] 1 [(0,(.t 20))]),oo 22 (.append 2 1 8 (.t 19) (.t 21)),mo 5 22]) (kp [(0,0),(1,0),(5,1)] [(0,0),(3,1)] 1))
def g27l1_cb:TC:=(.seq (sq [mo 8 1,bn 9 .gtr (.t 8) (ki 0)] [0,1,5,9] (.cond (.t 9) .skip (.keep (kp [(0,0),(5,1)] [(0,0),(1,1)] 1) (.exit 0)))) (.trim [0,1,5] (.seq (.block 1 (sq [mo 12 0,oo 13 (.callM 67 0 [0] [.t 12,ki 6]),bn 14 .add (ki 1) (.t 13),mo 6 14] [0,1,5,6] (.seq (sq [mo 15 0,oo 16 (.callM 144 0 [0] [.t 15,ki 8])] [0,1,5,6,16] (.cond (.t 16) (.after (.ops [mo 17 0,oo 18 (.callM 67 0 [0] [.t 17,ki 9]),mo 6 18]) (kp [(0,0),(1,0),(5,1),(6,0)] [(0,0),(1,1)] 1)) (.keep (kp [(0,0),(1,0),(5,1),(6,0)] [(0,0),(1,1)] 1) .skip))) (.trim [0,1,5,6] g27p2_c)))) (.trim [0,1,5] (.after (.ops [mo 10 1,bn 11 .sub (.t 10) (ki 1),mo 1 11]) (kp [(0,0),(1,0),(5,1)] [(0,0),(1,1)] 1))))))
def g27l1_c:TC:=.loop [0,1,5] g27l1_cb
def g27_tf:TFn:=⟨(sq [mk 4 (.c .nils)] [0,1] (sq [oo 7 (.bslice [(.int .i64 0)] 0 []),mo 5 7] [0,1,5] (.seq (.block 0 (.keep (kp [(0,0),(1,0),(5,1)] [(0,0),(1000,1)] 1) g27l1_c)) (.trim [0,5] (.seq (sq [mo 23 5,le 24 23,bn 25 .eql (.t 24) (ki 1),mo 26 25,⟨(some 27),(some (26,true)),(.mv (.t 0))⟩,⟨(some 28),(some (26,true)),(.callM 144 0 [0] [.t 27,ki 6])⟩,pk 29 (.t 26) (.t 28) (kb false)] [0,5,29] (.cond (.t 29) (.after (.ops [mo 30 5,mo 31 0,oo 32 (.bslice [(.int .i64 0)] 3 [(0,(ki 40)),(1,(ki 39)),(2,(ki 17))]),oo 33 (.callM 111 0 [0,2] [.t 31,.t 32]),oo 34 (.iaddr 1 (.t 30) (ki 0)),⟨none,none,(.store 1 (.t 34) (.t 33))⟩]) (kp [(5,1)] [(0,0),(1,1)] 1)) (.keep (kp [(5,1)] [(0,0),(1,1)] 1) .skip))) (.trim [5] (.seq (.ops [mo 35 5,mo 4 35]) (.keep (kp [(4,1)] [(0,0),(1,1)] 1) .ret)))))))),[.t 4]⟩
abbrev g27_S:=Sys.on [] [((67,0),(1,g10_r)),((144,0),(1,g14_r)),((111,0),(2,g8_r))]
@[reducible,simp] def g27p2_F:(List Bt×Int×Int×Int×List Int)→Out:=(fun t=>(.nrm,[(0,(.ptr 0 0 0)),(1,(.int .i64 t.2.2.2.1)),(5,(ow 1 t.2.2.2.2.length))],[(.live 3 [[(.vs (rows t.1)),(.int .i64 t.2.1),(.int .u64 t.2.2.1)]]),(ob 1 t.2.2.2.2)]))
def spec_l05Draw_o30_p2 (v9:List Bt) (v10:Int) (v11:Int) (v12:Int) (v13:List Int) (v14:Int):Option (List Bt×Int×Int×Int×List Int):=(appL 8 v13 ((lit [v14]:List Int))).bind fun l15=>some ((v9,v10,v11,v12,l15))
@[simp] theorem g27p2_eq (y0 y1 y2 y3)(y4:List Int)(y5){n1:Nat}(h1:n1=y4.length):X g27_S g27p2_c [(0,(.ptr 0 0 0)),(1,(.int .i64 y3)),(5,(ow 1 n1)),(6,(.int .i64 y5))] [(.live 3 [[(.vs (rows y0)),(.int .i64 y1),(.int .u64 y2)]]),(ob 1 y4)]=(spec_l05Draw_o30_p2 y0 y1 y2 y3 y4 y5).map g27p2_F:=by
  subst h1
  simp (maxSteps:=2000000) (maxDischargeDepth:=8) -implicitDefEqProofs [g27p2_c,spec_l05Draw_o30_p2,bslV_lit (α:=Int) (zs:=[(.int .i64 0)])] <;> (try simp only [map_to_bind,some_elim,g27p2_F])
@[reducible,simp] def g27l1_F:(List Bt×Int×Int×List Int)→Out:=(fun t=>(.ext 0,[(0,(.ptr 0 0 0)),(5,(ow 1 t.2.2.2.length))],[(.live 3 [[(.vs (rows t.1)),(.int .i64 t.2.1),(.int .u64 t.2.2.1)]]),(ob 1 t.2.2.2)]))
def spec_l05Draw_o30_l1_b (v1:List Bt) (v2:Int) (v3:Int) (v4:Int) (v5:List Int):Option ((List Bt×Int×Int×Int×List Int) ⊕ (List Bt×Int×Int×List Int)):=if v4 > 0 then (spec_l00Src_pick_o30 v1 v2 v3 6).bind fun r6=>(spec_l00Src_one_o30 r6.1 r6.2.1 r6.2.2.1 8).bind fun r7=>if r7.2.2.2=true then (spec_l00Src_pick_o30 r7.1 r7.2.1 r7.2.2.1 9).bind fun r8=>(spec_l05Draw_o30_p2 r8.1 r8.2.1 r8.2.2.1 v4 v5 r8.2.2.2).bind fun r16=>some (.inl (r16.1,r16.2.1,r16.2.2.1,(IntKind.i64.wrap (r16.2.2.2.1 - 1)),r16.2.2.2.2)) else (spec_l05Draw_o30_p2 r7.1 r7.2.1 r7.2.2.1 v4 v5 ((IntKind.i64.wrap (1+r6.2.2.2)))).bind fun r17=>some (.inl (r17.1,r17.2.1,r17.2.2.1,(IntKind.i64.wrap (r17.2.2.2.1 - 1)),r17.2.2.2.2)) else some (.inr (v1,v2,v3,v5))
theorem g27l1_b_eq  (v1:List Bt) (v2:Int) (v3:Int) (v4:Int) (v5:List Int):X g27_S g27l1_cb (keepEnv [0,1,5] [(0,(.ptr 0 0 0)),(1,(.int .i64 v4)),(5,(ow 1 v5.length))]) [(.live 3 [[(.vs (rows v1)),(.int .i64 v2),(.int .u64 v3)]]),(ob 1 v5)]=(spec_l05Draw_o30_l1_b v1 v2 v3 v4 v5).map (Sum.elim (fun s=>(TX.nrm,[(0,(.ptr 0 0 0)),(1,(.int .i64 s.2.2.2.1)),(5,(ow 1 s.2.2.2.2.length))],[(.live 3 [[(.vs (rows s.1)),(.int .i64 s.2.1),(.int .u64 s.2.2.1)]]),(ob 1 s.2.2.2.2)])) g27l1_F):=by
  simp (maxSteps:=2000000) (maxDischargeDepth:=8) -implicitDefEqProofs [g27l1_cb,spec_l05Draw_o30_l1_b,bslV_lit (α:=Int) (zs:=[(.int .i64 0)])] <;> (try simp only [map_to_bind,some_elim,g27l1_F])
def spec_l05Draw_o30_l1  (s:List Bt×Int×Int×Int×List Int):Option (List Bt×Int×Int×List Int):=loopO (fun s=>spec_l05Draw_o30_l1_b  s.1 s.2.1 s.2.2.1 s.2.2.2.1 s.2.2.2.2) s
@[simp] theorem g27l1_eq (y0 y1 y2 y3)(y4:List Int){n1:Nat}(h1:n1=y4.length):X g27_S g27l1_c [(0,(.ptr 0 0 0)),(1,(.int .i64 y3)),(5,(ow 1 n1))] [(.live 3 [[(.vs (rows y0)),(.int .i64 y1),(.int .u64 y2)]]),(ob 1 y4)]=(spec_l05Draw_o30_l1  (y0,y1,y2,y3,y4)).map g27l1_F:=by
  subst h1
  exact loop_X _ _ _ _ (by intro r;first | (simp;done) | (rcases r with r | r <;> simp;done) | (rcases r with r | r | r <;> simp;done) | (rcases r with r | r | r | r <;> simp)) (fun s=>g27l1_b_eq   s.1 s.2.1 s.2.2.1 s.2.2.2.1 s.2.2.2.2) (y0,y1,y2,y3,y4)
@[simp] theorem g27l1_eq_4 (y0 y1 y2 y3):X g27_S g27l1_c [(0,(.ptr 0 0 0)),(1,(.int .i64 y3)),(5,.es)] [(.live 3 [[(.vs (rows y0)),(.int .i64 y1),(.int .u64 y2)]]),.dead]=(spec_l05Draw_o30_l1  (y0,y1,y2,y3,([]:List Int))).map g27l1_F :=
  g27l1_eq  y0 y1 y2 y3 ([]:List Int) rfl
def spec_l05Draw_o30 (a1:List Bt) (a2:Int) (a3:Int) (a4:Int):Option (List Bt×Int×Int×List Int):=(spec_l05Draw_o30_l1 ((a1,a2,a3,a4,([]:List Int)))).bind fun r18=>if ((r18.2.2.2.length:Nat):Int)=1 then (spec_l00Src_one_o30 r18.1 r18.2.1 r18.2.2.1 6).bind fun r19=>if r19.2.2.2=true then (spec_l00Src_among_o72 r19.1 r19.2.1 r19.2.2.1 ((lit [40,39,17]:List Int))).bind fun r20=>if r20.2.2.2.1.length=((lit [40,39,17]:List Int)).length then if 0≤(0:Int)∧(0:Int) < ((r18.2.2.2.length:Nat):Int) then (r18.2.2.2[((0:Int)).toNat]?).bind fun x21=>some (r20.1,r20.2.1,r20.2.2.1,(r18.2.2.2.set ((0:Int)).toNat r20.2.2.2.2)) else none else none else some (r19.1,r19.2.1,r19.2.2.1,r18.2.2.2) else some (r18.1,r18.2.1,r18.2.2.1,r18.2.2.2)
@[simp] def g27_O:(List Bt×Int×Int×List Int)→TV×List Blk:=fun r=>((ow 1 r.2.2.2.length),[(.live 3 [[(.vs (rows r.1)),(.int .i64 r.2.1),(.int .u64 r.2.2.1)]]),(ob 1 r.2.2.2)])
abbrev g27_T:=List Bt×Int×Int×Int
def g27_E (a:g27_T):List TV:=[(.ptr 0 0 0),(.int .i64 a.2.2.2)]
def g27_B (a:g27_T):List Blk:=[(.live 3 [[(.vs (rows a.1)),(.int .i64 a.2.1),(.int .u64 a.2.2.1)]])]
theorem g27_run (a1:List Bt) (a2:Int) (a3:Int) (a4:Int) :callFn (X g27_S) g27_tf (g27_E (a1,a2,a3,a4)) (g27_B (a1,a2,a3,a4))=(spec_l05Draw_o30 a1 a2 a3 a4).map g27_O:=by
  rw [callFn_eq]
  simp (maxSteps:=2000000) (maxDischargeDepth:=8) -implicitDefEqProofs [g27_tf,spec_l05Draw_o30,g27_E,g27_B,bslV_lit (α:=Int) (zs:=[(.int .i64 0)])] <;> (try simp only [map_to_bind,some_elim,g27_O])
def g27_r:MRule:=RmO g27_E g27_B (fun a=>spec_l05Draw_o30 a.1 a.2.1 a.2.2.1 a.2.2.2) g27_O
theorem g27_ok:MRuleOk Tryd.prog 112 1 g27_r:=ok_rmo (S:=g27_S) (tf:=g27_tf) (SysOk.on trivial ⟨g10_ok,g14_ok,g8_ok,trivial⟩) (trE_ok (ks:=[[0,1,5]]) Tryd.func112 (by kernel_rfl)) (by rfl) (fun _=>by simp [g27_B]) (fun _=>by simp) fun a=>g27_run a.1 a.2.1 a.2.2.1 a.2.2.2
@[simp] theorem g27_app (y0 y1 y2 y3):g27_r [(.ptr 0 0 0),(.int .i64 y3)] [(.live 3 [[(.vs (rows y0)),(.int .i64 y1),(.int .u64 y2)]])]=(spec_l05Draw_o30 y0 y1 y2 y3).map g27_O:=by
  exact RmO_app (enc:=g27_E) (encB:=g27_B) (by intro a b h h2;simp [g27_E,g27_B,Prod.ext_iff] at h h2 ⊢;simp [h,h2]) (y0,y1,y2,y3)
/-! spec.l05DrawDims -/
def g11_tf:TFn:=⟨(sq [mk 2 (.c .nils)] [0] (sq [mo 4 0,oo 5 (.bslice [(.int .i64 0)] 8 [(0,(ki 1)),(1,(ki 1)),(2,(ki 2)),(3,(ki 2)),(4,(ki 2)),(5,(ki 3)),(6,(ki 3)),(7,(ki 0))]),oo 6 (.callM 111 0 [0,1] [.t 4,.t 5]),mo 3 6] [0,3] (.seq (.ops [mo 7 0,mo 8 3,oo 9 (.callM 112 0 [0] [.t 7,.t 8]),mo 2 9]) (.keep (kp [(2,1)] [(0,0),(2,1)] 1) .ret)))),[.t 2]⟩
abbrev g11_S:=Sys.on [] [((111,0),(2,g8_r)),((112,0),(1,g27_r))]
def spec_l05DrawDims_o9d (a1:List Bt) (a2:Int) (a3:Int):Option (List Bt×Int×Int×List Int):=(spec_l00Src_among_o72 a1 a2 a3 ((lit [1,1,2,2,2,3,3,0]:List Int))).bind fun r1=>if r1.2.2.2.1.length=((lit [1,1,2,2,2,3,3,0]:List Int)).length then (spec_l05Draw_o30 r1.1 r1.2.1 r1.2.2.1 r1.2.2.2.2).bind fun r2=>some (r2.1,r2.2.1,r2.2.2.1,r2.2.2.2) else none
@[simp] def g11_O:(List Bt×Int×Int×List Int)→TV×List Blk:=fun r=>((ow 1 r.2.2.2.length),[(.live 3 [[(.vs (rows r.1)),(.int .i64 r.2.1),(.int .u64 r.2.2.1)]]),(ob 1 r.2.2.2)])
abbrev g11_T:=List Bt×Int×Int
def g11_E (a:g11_T):List TV:=[(.ptr 0 0 0)]
def g11_B (a:g11_T):List Blk:=[(.live 3 [[(.vs (rows a.1)),(.int .i64 a.2.1),(.int .u64 a.2.2)]])]
theorem g11_run (a1:List Bt) (a2:Int) (a3:Int) :callFn (X g11_S) g11_tf (g11_E (a1,a2,a3)) (g11_B (a1,a2,a3))=(spec_l05DrawDims_o9d a1 a2 a3).map g11_O:=by
  rw [callFn_eq]
  simp (maxSteps:=2000000) (maxDischargeDepth:=8) -implicitDefEqProofs [g11_tf,spec_l05DrawDims_o9d,g11_E,g11_B,bslV_lit (α:=Int) (zs:=[(.int .i64 0)])] <;> (try simp only [map_to_bind,some_elim,g11_O])
def g11_r:MRule:=RmO g11_E g11_B (fun a=>spec_l05DrawDims_o9d a.1 a.2.1 a.2.2) g11_O
theorem g11_ok:MRuleOk Tryd.prog 70 1 g11_r:=ok_rmo (S:=g11_S) (tf:=g11_tf) (SysOk.on trivial ⟨g8_ok,g27_ok,trivial⟩) (trE_ok (ks:=[]) Tryd.func70 (by kernel_rfl)) (by rfl) (fun _=>by simp [g11_B]) (fun _=>by simp) fun a=>g11_run a.1 a.2.1 a.2.2
@[simp] theorem g11_app (y0 y1 y2):g11_r [(.ptr 0 0 0)] [(.live 3 [[(.vs (rows y0)),(.int .i64 y1),(.int .u64 y2)]])]=(spec_l05DrawDims_o9d y0 y1 y2).map g11_O:=by
  exact RmO_app (enc:=g11_E) (encB:=g11_B) (by intro a b h h2;simp [g11_E,g11_B,Prod.ext_iff] at h h2 ⊢;simp [h,h2]) (y0,y1,y2)
/-! spec.l25DrawNumbers -/
def g7l1_cb:TC:=(.seq (sq [mo 11 6,bn 12 .gtr (.t 11) (ki 0)] [0,4,5,6,12] (.cond (.t 12) .skip (.keep (kp [(4,0),(5,0)] [(0,0),(1,1),(2,2),(3,2),(4,1)] 2) (.exit 0)))) (.trim [0,4,5,6] (.seq (.block 1 (.drawF [(none,fa 15 1 5),(none,ld 16 15),(none,mo 17 0),(some [15,16],oo 18 (.callM 67 0 [0] [.t 17,ki 9])),(none,bn 19 .sub (.t 18) (ki 3)),(some [15,16],oo 20 (.bslice [(.int .i64 0)] 1 [(0,(.t 19))]))] [oo 21 (.append 2 1 8 (.t 16) (.t 20)),fa 22 1 5,⟨none,none,(.store 1 (.t 22) (.t 21))⟩])) (.trim [0,4,5,6] (.after (.ops [mo 13 6,bn 14 .sub (.t 13) (ki 1),mo 6 14]) (kp [(0,0),(4,0),(5,0),(6,0)] [(0,0),(1,1),(2,2),(3,2),(6,1)] 2))))))
def g7l1_c:TC:=.loop [0,4,5,6] g7l1_cb
def g7_tf:TFn:=⟨(sq [oo 4 (.alloc [.nils,.nils])] [0,1,4] (sq [mo 7 1,oo 8 (.build [.nils,.nils] [(0,1,(.t 7))]),oo 5 (.alloc [.nils,.nils]),⟨none,none,(.store 2 (.t 5) (.t 8))⟩] [0,1,4,5] (.seq (sq [mo 9 1,ca 10 110 [.t 9],mo 6 10] [0,4,5,6] (.block 0 (.keep (kp [(0,0),(4,0),(5,0),(6,0)] [(0,0),(1,1),(2,2),(3,2),(1000,1)] 2) g7l1_c))) (.trim [4,5] (.seq (.ops [ln 23 2 5,⟨none,none,(.store 2 (.t 4) (.t 23))⟩]) (.keep (kp [(4,0)] [(0,0),(1,1),(2,2),(4,1)] 2) .ret)))))),[.cell 4 (some 2)]⟩
abbrev g7_S:=Sys.on [(110,g33_r)] [((67,0),(1,g10_r))]
@[reducible,simp] def g7l1_F:(List Bt×Int×Int×List Int×List Int)→Out:=(fun t=>(.ext 0,[(4,(.ptr 2 0 0)),(5,(.ptr 3 0 0))],[(.live 3 [[(.vs (rows t.1)),(.int .i64 t.2.1),(.int .u64 t.2.2.1)]]),(ob 1 t.2.2.2.1),(.live 2 [[.es,.es]]),(.live 2 [[(ow 1 t.2.2.2.1.length),(ow 4 t.2.2.2.2.length)]]),(ob 1 t.2.2.2.2)]))
def spec_l25DrawNumbers_obb_l1_b (v5:List Int) (v2:List Bt) (v3:Int) (v4:Int) (v6:List Int) (v7:Int):Option ((List Bt×Int×Int×List Int×Int) ⊕ (List Bt×Int×Int×List Int×List Int)):=if v7 > 0 then (spec_l00Src_pick_o30 v2 v3 v4 9).bind fun r8=>(appL 8 v6 ((lit [(IntKind.i64.wrap (r8.2.2.2 - 3))]:List Int))).bind fun l9=>some (.inl (r8.1,r8.2.1,r8.2.2.1,l9,(IntKind.i64.wrap (v7 - 1)))) else some (.inr (v2,v3,v4,v5,v6))
theorem g7l1_b_eq  (v5:List Int) (v2:List Bt) (v3:Int) (v4:Int) (v6:List Int) (v7:Int):X g7_S g7l1_cb (keepEnv [0,4,5,6] [(0,(.ptr 0 0 0)),(4,(.ptr 2 0 0)),(5,(.ptr 3 0 0)),(6,(.int .i64 v7))]) [(.live 3 [[(.vs (rows v2)),(.int .i64 v3),(.int .u64 v4)]]),(ob 1 v5),(.live 2 [[.es,.es]]),(.live 2 [[(ow 1 v5.length),(ow 4 v6.length)]]),(ob 1 v6)]=(spec_l25DrawNumbers_obb_l1_b v5 v2 v3 v4 v6 v7).map (Sum.elim (fun s=>(TX.nrm,[(0,(.ptr 0 0 0)),(4,(.ptr 2 0 0)),(5,(.ptr 3 0 0)),(6,(.int .i64 s.2.2.2.2))],[(.live 3 [[(.vs (rows s.1)),(.int .i64 s.2.1),(.int .u64 s.2.2.1)]]),(ob 1 v5),(.live 2 [[.es,.es]]),(.live 2 [[(ow 1 v5.length),(ow 4 s.2.2.2.1.length)]]),(ob 1 s.2.2.2.1)])) g7l1_F):=by
  simp (maxSteps:=2000000) (maxDischargeDepth:=8) -implicitDefEqProofs [g7l1_cb,spec_l25DrawNumbers_obb_l1_b,bslV_lit (α:=Int) (zs:=[(.int .i64 0)])] <;> (try simp only [map_to_bind,some_elim,g7l1_F])
def spec_l25DrawNumbers_obb_l1 (v5:List Int) (s:List Bt×Int×Int×List Int×Int):Option (List Bt×Int×Int×List Int×List Int):=loopO (fun s=>spec_l25DrawNumbers_obb_l1_b v5 s.1 s.2.1 s.2.2.1 s.2.2.2.1 s.2.2.2.2) s
@[simp] theorem g7l1_eq (y0 y1 y2)(y3:List Int)(y4:List Int)(y5){n1:Nat}(h1:n1=y3.length){n2:Nat}(h2:n2=y4.length):X g7_S g7l1_c [(0,(.ptr 0 0 0)),(4,(.ptr 2 0 0)),(5,(.ptr 3 0 0)),(6,(.int .i64 y5))] [(.live 3 [[(.vs (rows y0)),(.int .i64 y1),(.int .u64 y2)]]),(ob 1 y3),(.live 2 [[.es,.es]]),(.live 2 [[(ow 1 n1),(ow 4 n2)]]),(ob 1 y4)]=(spec_l25DrawNumbers_obb_l1 y3 (y0,y1,y2,y4,y5)).map g7l1_F:=by
  subst h1 h2
  exact loop_X _ _ _ _ (by intro r;first | (simp;done) | (rcases r with r | r <;> simp;done) | (rcases r with r | r | r <;> simp;done) | (rcases r with r | r | r | r <;> simp)) (fun s=>g7l1_b_eq  y3 s.1 s.2.1 s.2.2.1 s.2.2.2.1 s.2.2.2.2) (y0,y1,y2,y4,y5)
@[simp] theorem g7l1_eq_4 (y0 y1 y2)(y3:List Int)(y4){n1:Nat}(h1:n1=y3.length):X g7_S g7l1_c [(0,(.ptr 0 0 0)),(4,(.ptr 2 0 0)),(5,(.ptr 3 0 0)),(6,(.int .i64 y4))] [(.live 3 [[(.vs (rows y0)),(.int .i64 y1),(.int .u64 y2)]]),(ob 1 y3),(.live 2 [[.es,.es]]),(.live 2 [[(ow 1 n1),.es]]),.dead]=(spec_l25DrawNumbers_obb_l1 y3 (y0,y1,y2,([]:List Int),y4)).map g7l1_F :=
  g7l1_eq  y0 y1 y2 y3 ([]:List Int) y4 h1 rfl
def spec_l25DrawNumbers_obb (a1:List Bt) (a2:Int) (a3:Int) (a4:List Int):Option (List Bt×Int×Int×List Int×List Int):=(spec_l05Count a4).bind fun r1=>(spec_l25DrawNumbers_obb_l1 a4 ((a1,a2,a3,([]:List Int),r1))).bind fun r10=>some (r10.1,r10.2.1,r10.2.2.1,r10.2.2.2.1,r10.2.2.2.2)
@[simp] def g7_O:(List Bt×Int×Int×List Int×List Int)→TV×List Blk:=fun r=>((.agg [(ow 1 r.2.2.2.1.length),(ow 3 r.2.2.2.2.length)]),[(.live 3 [[(.vs (rows r.1)),(.int .i64 r.2.1),(.int .u64 r.2.2.1)]]),(ob 1 r.2.2.2.1),(.live 2 [[(ow 1 r.2.2.2.1.length),(ow 3 r.2.2.2.2.length)]]),(ob 1 r.2.2.2.2)])
abbrev g7_T:=List Bt×Int×Int×List Int
def g7_E (a:g7_T):List TV:=[(.ptr 0 0 0),(ow 1 a.2.2.2.length)]
def g7_B (a:g7_T):List Blk:=[(.live 3 [[(.vs (rows a.1)),(.int .i64 a.2.1),(.int .u64 a.2.2.1)]]),(ob 1 a.2.2.2)]
theorem g7_run (a1:List Bt) (a2:Int) (a3:Int) (a4:List Int) :callFn (X g7_S) g7_tf (g7_E (a1,a2,a3,a4)) (g7_B (a1,a2,a3,a4))=(spec_l25DrawNumbers_obb a1 a2 a3 a4).map g7_O:=by
  rw [callFn_eq]
  simp (maxSteps:=2000000) (maxDischargeDepth:=8) -implicitDefEqProofs [g7_tf,spec_l25DrawNumbers_obb,g7_E,g7_B,bslV_lit (α:=Int) (zs:=[(.int .i64 0)])] <;> (try simp only [map_to_bind,some_elim,g7_O])
def g7_r:MRule:=RmO g7_E g7_B (fun a=>(spec_l25DrawNumbers_obb a.1 a.2.1 a.2.2.1 a.2.2.2).bind fun r=>if r.2.2.2.1.length=a.2.2.2.length then some (r.1,r.2.1,r.2.2.1,(fixLen a.2.2.2 r.2.2.2.1),r.2.2.2.2) else none) g7_O
theorem g7_ok0:MRuleOk Tryd.prog 68 2 (RmO g7_E g7_B (fun a=>spec_l25DrawNumbers_obb a.1 a.2.1 a.2.2.1 a.2.2.2) g7_O):=ok_rmo (S:=g7_S) (tf:=g7_tf) (SysOk.on ⟨g33_ok,trivial⟩ ⟨g10_ok,trivial⟩) (trE_ok (ks:=[[0,4,5,6],[6,2000000,0,0,0,0,3,15,16,0,3,15,16]]) Tryd.func68 (by kernel_rfl)) (by rfl) (fun _=>by simp [g7_B]) (fun _=>by simp) fun a=>g7_run a.1 a.2.1 a.2.2.1 a.2.2.2
theorem g7_ok:MRuleOk Tryd.prog 68 2 g7_r:=g7_ok0.weak fun a r hr=>by
  simp only [Option.bind_eq_some_iff] at hr
  obtain ⟨x,h1,h2⟩:=hr
  split at h2
  · rename_i hc
    simp only [Option.some.injEq] at h2
    rw [h1,← h2]
    simp [fixLen,hc]
  · cases h2
@[simp] theorem g7_app (y0 y1 y2)(y3:List Int){n1:Nat}(h1:n1=y3.length):g7_r [(.ptr 0 0 0),(ow 1 n1)] [(.live 3 [[(.vs (rows y0)),(.int .i64 y1),(.int .u64 y2)]]),(ob 1 y3)]=((spec_l25DrawNumbers_obb y0 y1 y2 y3).bind fun r=>if r.2.2.2.1.length=y3.length then some (r.1,r.2.1,r.2.2.1,(fixLen y3 r.2.2.2.1),r.2.2.2.2) else none).map g7_O:=by
  subst h1
  exact RmO_app (enc:=g7_E) (encB:=g7_B) (by intro a b h h2;simp [g7_E,g7_B,Prod.ext_iff] at h h2 ⊢;simp [h,h2]) (y0,y1,y2,y3)
/-! spec.l05Digits -/
def g32_tf:TFn:=⟨(sq [mk 2 (.c (.str []))] [0] (.seq (sq [mo 3 0,bn 4 .lss (.t 3) (ki 0)] [0,4] (.cond (.t 4) (.seq (.ops [mo 5 0,oo 6 (.un .neg (.t 5)),ca 7 78 [.t 6],oo 8 (.bin .str .add (.c (.str [45])) (.t 7)),mo 2 8]) (.keep (kp [(2,0)] [] 0) .ret)) .skip)) (.trim [0] (.seq (sq [mo 9 0,bn 10 .lss (.t 9) (ki 10)] [0,10] (.cond (.t 10) (.seq (.ops [mo 11 0,bn 12 .add (ki 48) (.t 11),oo 13 (.conv (.toInt .u8) (.t 12)),oo 14 (.bslice [(.int .u8 0)] 1 [(0,(.t 13))]),oo 15 (.conv .toStr (.t 14)),mo 2 15]) (.keep (kp [(2,0)] [] 0) .ret)) .skip)) (.trim [0] (.seq (.draw [([],mo 16 0),([0],bn 17 .quo (.t 16) (ki 10)),([0,1],ca 18 78 [.t 17]),([],mo 19 0),([3],bn 20 .rem (.t 19) (ki 10)),([3,4],bn 21 .add (ki 48) (.t 20)),([3,4,5],oo 22 (.conv (.toInt .u8) (.t 21))),([3,4,5,6],oo 23 (.bslice [(.int .u8 0)] 1 [(0,(.t 22))])),([3,4,5,6,7],oo 24 (.conv .toStr (.t 23)))] [oo 25 (.bin .str .add (.t 18) (.t 24)),mo 2 25]) (.keep (kp [(2,0)] [] 0) .ret))))))),[.t 2]⟩
@[simp] def g32_O:Str→TV×List Blk:=fun r=>((.str r),[])
def g32_E (a:Int):List TV:=[(.int .i64 a)]
abbrev spec_l05Digits_R:=(Int→Option (Str))
def spec_l05Digits_q (r:spec_l05Digits_R):Rule:=RlO g32_E (fun a=>r a) g32_O
@[simp] theorem spec_l05Digits_qapp {r:spec_l05Digits_R} (a_n:Int) :(spec_l05Digits_q r) [(.int .i64 a_n)]=(r a_n).map g32_O :=
  RlO_app (enc:=g32_E) (by intro a b h;simp [g32_E,Prod.ext_iff] at h ⊢;simp [h]) a_n
abbrev g32_S (r:spec_l05Digits_R):=Sys.on [(78,spec_l05Digits_q r)] []
def spec_l05Digits_W (r:spec_l05Digits_R) (a_n:Int):Option (Str):=if a_n < 0 then (r ((IntKind.i64.wrap (0 - a_n)))).bind fun r1=>if (([45]:Str)).length+r1.length≤9223372036854775807 then some ((([45]:Str)++r1)) else none else if a_n < 10 then some ((((lit [(⟨UInt8.ofNat ((IntKind.u8.wrap ((IntKind.i64.wrap (48+a_n))))).toNat⟩:Bt)]:List Bt)).map Bt.v)) else (r ((IntKind.i64.wrap (Int.tdiv a_n 10)))).bind fun r2=>if r2.length+((((lit [(⟨UInt8.ofNat ((IntKind.u8.wrap ((IntKind.i64.wrap (48+(Int.tmod a_n 10)))))).toNat⟩:Bt)]:List Bt)).map Bt.v)).length≤9223372036854775807 then some ((r2++(((lit [(⟨UInt8.ofNat ((IntKind.u8.wrap ((IntKind.i64.wrap (48+(Int.tmod a_n 10)))))).toNat⟩:Bt)]:List Bt)).map Bt.v))) else none
theorem g32_run {r:spec_l05Digits_R} (a_n:Int) :callFn (X (g32_S r)) g32_tf (g32_E a_n) []=(spec_l05Digits_W r a_n).map g32_O:=by
  rw [callFn_eq]
  simp (maxSteps:=2000000) (maxDischargeDepth:=8) -implicitDefEqProofs [g32_tf,spec_l05Digits_W,g32_E,bslV_lit (α:=Bt) (zs:=[(.int .u8 0)])] <;> (try simp only [map_to_bind,some_elim,g32_O])
noncomputable def spec_l05Digits_it (n:Nat):spec_l05Digits_R:=Nat.rec (motive:=fun _=>spec_l05Digits_R) (fun _=>none) (fun _ r=>(spec_l05Digits_W r)) n
noncomputable def spec_l05Digits (a_n:Int):Option (Str):=evO fun n=>((spec_l05Digits_it n)) a_n
theorem spec_l05Digits_oks:∀ n,(RuleOk Tryd.prog 78 (spec_l05Digits_q (spec_l05Digits_it n)))
  | 0=>ok_none (tf:=g32_tf) (trE_ok (ks:=[[9]]) Tryd.func78 (by kernel_rfl))
  | n+1=>by
    have ih:=spec_l05Digits_oks n
    exact ok_rlo (S:=(g32_S (spec_l05Digits_it n))) (tf:=g32_tf) (SysOk.on ⟨(ih),trivial⟩ trivial) (trE_ok (ks:=[[9]]) Tryd.func78 (by kernel_rfl)) fun a=>g32_run a
def g32_r:Rule:=RlO g32_E (fun a=>spec_l05Digits a) g32_O
@[simp] theorem g32_app (y0):g32_r [(.int .i64 y0)]=(spec_l05Digits y0).map g32_O :=
  RlO_app (enc:=g32_E) (by intro a b h;simp [g32_E,Prod.ext_iff] at h ⊢;simp [h]) y0
theorem g32_ok:RuleOk Tryd.prog 78 g32_r:=ok_ev fun n=>(spec_l05Digits_oks n)
/-! spec.l05List -/
def g42p2_c:TC:=(.after (.ops [mo 15 3,mo 16 0,mo 17 4,ia 18 1 16 17,ld 19 18,ca 20 78 [.t 19],oo 21 (.bin .str .add (.t 15) (.t 20)),mo 3 21]) (kp [(0,0),(3,0),(4,0)] [] 0))
def g42l1_cb:TC:=(.seq (sq [mo 5 4,mo 6 0,le 7 6,bn 8 .lss (.t 5) (.t 7)] [0,3,4,8] (.cond (.t 8) .skip (.keep (kp [(3,0)] [] 0) (.exit 0)))) (.trim [0,3,4] (.seq (.block 1 (.seq (sq [mo 11 4,bn 12 .gtr (.t 11) (ki 0)] [0,3,4,12] (.cond (.t 12) (.after (.ops [mo 13 3,oo 14 (.bin .str .add (.t 13) (.c (.str [44]))),mo 3 14]) (kp [(0,0),(3,0),(4,0)] [] 0)) (.keep (kp [(0,0),(3,0),(4,0)] [] 0) .skip))) (.trim [0,3,4] g42p2_c))) (.trim [0,3,4] (.after (.ops [mo 9 4,bn 10 .add (.t 9) (ki 1),mo 4 10]) (kp [(0,0),(3,0),(4,0)] [] 0))))))
def g42l1_c:TC:=.loop [0,3,4] g42l1_cb
def g42_tf:TFn:=⟨(sq [mk 2 (.c (.str []))] [0] (sq [mk 3 (.c (.str []))] [0,3] (.seq (sq [mk 4 (ki 0)] [0,3,4] (.block 0 (.keep (kp [(0,0),(3,0),(4,0)] [] 0) g42l1_c))) (.trim [3] (.seq (.ops [mo 22 3,mo 2 22]) (.keep (kp [(2,0)] [] 0) .ret)))))),[.t 2]⟩
abbrev g42_S:=Sys.on [(78,g32_r)] []
@[reducible,simp] def g42p2_F:(List Int×Str×Int)→Out:=(fun t=>(.nrm,[(0,(.vs (rows t.1))),(3,(.str t.2.1)),(4,(.int .i64 t.2.2))],[]))
def spec_l05List_p2 (v4:List Int) (v5:Str) (v6:Int):Option (List Int×Str×Int):=if 0≤v6 then (v4[(v6).toNat]?).bind fun x7=>(spec_l05Digits x7).bind fun r8=>if v5.length+r8.length≤9223372036854775807 then some ((v4,(v5++r8),v6)) else none else none
@[simp] theorem g42p2_eq (y0 y1 y2):X g42_S g42p2_c [(0,(.vs (rows y0))),(3,(.str y1)),(4,(.int .i64 y2))] []=(spec_l05List_p2 y0 y1 y2).map g42p2_F:=by
  simp (maxSteps:=2000000) (maxDischargeDepth:=8) -implicitDefEqProofs [g42p2_c,spec_l05List_p2] <;> (try simp only [map_to_bind,some_elim,g42p2_F])
@[reducible,simp] def g42l1_F:Str→Out:=(fun t=>(.ext 0,[(3,(.str t))],[]))
def spec_l05List_l1_b (v1:List Int) (v2:Str) (v3:Int):Option ((List Int×Str×Int) ⊕ (Str)):=if v3 < (v1.length:Int) then if v3 > 0 then if v2.length+(([44]:Str)).length≤9223372036854775807 then (spec_l05List_p2 v1 ((v2++([44]:Str))) v3).bind fun r9=>some (.inl (r9.1,r9.2.1,(IntKind.i64.wrap (r9.2.2+1)))) else none else (spec_l05List_p2 v1 v2 v3).bind fun r10=>some (.inl (r10.1,r10.2.1,(IntKind.i64.wrap (r10.2.2+1)))) else some (.inr v2)
theorem g42l1_b_eq  (v1:List Int) (v2:Str) (v3:Int):X g42_S g42l1_cb (keepEnv [0,3,4] [(0,(.vs (rows v1))),(3,(.str v2)),(4,(.int .i64 v3))]) []=(spec_l05List_l1_b v1 v2 v3).map (Sum.elim (fun s=>(TX.nrm,[(0,(.vs (rows s.1))),(3,(.str s.2.1)),(4,(.int .i64 s.2.2))],[])) g42l1_F):=by
  simp (maxSteps:=2000000) (maxDischargeDepth:=8) -implicitDefEqProofs [g42l1_cb,spec_l05List_l1_b] <;> (try simp only [map_to_bind,some_elim,g42l1_F])
def spec_l05List_l1  (s:List Int×Str×Int):Option (Str):=loopO (fun s=>spec_l05List_l1_b  s.1 s.2.1 s.2.2) s
@[simp] theorem g42l1_eq (y0 y1 y2):X g42_S g42l1_c [(0,(.vs (rows y0))),(3,(.str y1)),(4,(.int .i64 y2))] []=(spec_l05List_l1  (y0,y1,y2)).map g42l1_F:=by
  exact loop_X _ _ _ _ (by intro r;first | (simp;done) | (rcases r with r | r <;> simp;done) | (rcases r with r | r | r <;> simp;done) | (rcases r with r | r | r | r <;> simp)) (fun s=>g42l1_b_eq   s.1 s.2.1 s.2.2) (y0,y1,y2)
def spec_l05List (a_list:List Int):Option (Str):=(spec_l05List_l1 ((a_list,([]:Str),0))).bind fun r11=>some r11
@[simp] def g42_O:Str→TV×List Blk:=fun r=>((.str r),[])
def g42_E (a:List Int):List TV:=[(.vs (rows a))]
theorem g42_run (a_list:List Int) :callFn (X g42_S) g42_tf (g42_E a_list) []=(spec_l05List a_list).map g42_O:=by
  rw [callFn_eq]
  simp (maxSteps:=2000000) (maxDischargeDepth:=8) -implicitDefEqProofs [g42_tf,spec_l05List,g42_E] <;> (try simp only [map_to_bind,some_elim,g42_O])
def g42_r:Rule:=RlO g42_E (fun a=>spec_l05List a) g42_O
theorem g42_ok:RuleOk Tryd.prog 36 g42_r:=ok_rlo (S:=g42_S) (tf:=g42_tf) (SysOk.on ⟨g32_ok,trivial⟩ trivial) (trE_ok (ks:=[[0,3,4]]) Tryd.func36 (by kernel_rfl)) fun a=>g42_run a
@[simp] theorem g42_app (y0):g42_r [(.vs (rows y0))]=(spec_l05List y0).map g42_O :=
  RlO_app (enc:=g42_E) (by intro a b h;simp [g42_E,Prod.ext_iff] at h ⊢;simp [h]) y0
/-! spec.l32Text -/
def g43l1_cb:TC:=(.seq (sq [mo 12 4,mo 13 0,nk 14 13,fa 15 1 14,ld 16 15,le 17 16,bn 18 .lss (.t 12) (.t 17)] [0,3,4,18] (.cond (.t 18) .skip (.keep (kp [(3,0)] [] 0) (.exit 0)))) (.trim [0,3,4] (.seq (.block 1 (.ops [mo 21 3,mo 22 0,nk 23 22,fa 24 1 23,ld 25 24,mo 26 4,ia 27 1 25 26,ld 28 27,ca 29 78 [.t 28],oo 30 (.bin .str .add (.c (.str [32])) (.t 29)),oo 31 (.bin .str .add (.t 21) (.t 30)),mo 3 31])) (.trim [0,3,4] (.after (.ops [mo 19 4,bn 20 .add (.t 19) (ki 1),mo 4 20]) (kp [(0,0),(3,0),(4,0)] [] 0))))))
def g43l1_c:TC:=.loop [0,3,4] g43l1_cb
def g43_tf:TFn:=⟨(sq [mk 2 (.c (.str []))] [0] (sq [mo 5 0,nk 6 5,fa 7 0 6,ld 8 7,ca 9 36 [.t 8],oo 10 (.bin .str .add (.c (.str [40])) (.t 9)),oo 11 (.bin .str .add (.t 10) (.c (.str [41]))),mo 3 11] [0,3] (.seq (sq [mk 4 (ki 0)] [0,3,4] (.block 0 (.keep (kp [(0,0),(3,0),(4,0)] [] 0) g43l1_c))) (.trim [3] (.seq (.ops [mo 32 3,mo 2 32]) (.keep (kp [(2,0)] [] 0) .ret)))))),[.t 2]⟩
abbrev g43_S:=Sys.on [(36,g42_r),(78,g32_r)] []
@[reducible,simp] def g43l1_F:Str→Out:=(fun t=>(.ext 0,[(3,(.str t))],[]))
def spec_l32Text_l1_b (v2:List Int×List Int) (v3:Str) (v4:Int):Option ((Str×Int) ⊕ (Str)):=if v4 < (v2.2.length:Int) then if 0≤v4 then (v2.2[(v4).toNat]?).bind fun x5=>(spec_l05Digits x5).bind fun r6=>if (([32]:Str)).length+r6.length≤9223372036854775807 then if v3.length+((([32]:Str)++r6)).length≤9223372036854775807 then some (.inl ((v3++(([32]:Str)++r6)),(IntKind.i64.wrap (v4+1)))) else none else none else none else some (.inr v3)
theorem g43l1_b_eq (q0:List TV) (v2:List Int×List Int) (v3:Str) (v4:Int):X g43_S g43l1_cb (keepEnv [0,3,4] [(0,(.vp ((.vs (rows v2.1))::(.vs (rows v2.2))::q0))),(3,(.str v3)),(4,(.int .i64 v4))]) []=(spec_l32Text_l1_b v2 v3 v4).map (Sum.elim (fun s=>(TX.nrm,[(0,(.vp ((.vs (rows v2.1))::(.vs (rows v2.2))::q0))),(3,(.str s.1)),(4,(.int .i64 s.2))],[])) g43l1_F):=by
  simp (maxSteps:=2000000) (maxDischargeDepth:=8) -implicitDefEqProofs [g43l1_cb,spec_l32Text_l1_b] <;> (try simp only [map_to_bind,some_elim,g43l1_F])
def spec_l32Text_l1 (v2:List Int×List Int) (s:Str×Int):Option (Str):=loopO (fun s=>spec_l32Text_l1_b v2 s.1 s.2) s
@[simp] theorem g43l1_eq (q0:List TV)(y0 y1 y2 y3):X g43_S g43l1_c [(0,(.vp ((.vs (rows y0))::(.vs (rows y1))::q0))),(3,(.str y2)),(4,(.int .i64 y3))] []=(spec_l32Text_l1 ((y0,y1)) (y2,y3)).map g43l1_F:=by
  exact loop_X _ _ _ _ (by intro r;first | (simp;done) | (rcases r with r | r <;> simp;done) | (rcases r with r | r | r <;> simp;done) | (rcases r with r | r | r | r <;> simp)) (fun s=>g43l1_b_eq q0 ((y0,y1)) s.1 s.2) (y2,y3)
def spec_l32Text (a_n:List Int×List Int):Option (Str):=(spec_l05List a_n.1).bind fun r1=>if (([40]:Str)).length+r1.length≤9223372036854775807 then if ((([40]:Str)++r1)).length+(([41]:Str)).length≤9223372036854775807 then (spec_l32Text_l1 a_n ((((([40]:Str)++r1)++([41]:Str)),0))).bind fun r7=>some r7 else none else none
@[simp] def g43_O:Str→TV×List Blk:=fun r=>((.str r),[])
def g43_E (a:(List Int×List Int)×List TV):List TV:=[(.vp ((.vs (rows a.1.1))::(.vs (rows a.1.2))::a.2))]
theorem g43_run (a_n:List Int×List Int) (q0:List TV):callFn (X g43_S) g43_tf (g43_E (a_n,q0)) []=(spec_l32Text a_n).map g43_O:=by
  rw [callFn_eq]
  simp (maxSteps:=2000000) (maxDischargeDepth:=8) -implicitDefEqProofs [g43_tf,spec_l32Text,g43_E] <;> (try simp only [map_to_bind,some_elim,g43_O])
def g43_r:Rule:=RlO g43_E (fun a=>spec_l32Text a.1) g43_O
theorem g43_ok:RuleOk Tryd.prog 71 g43_r:=ok_rlo (S:=g43_S) (tf:=g43_tf) (SysOk.on ⟨g42_ok,g32_ok,trivial⟩ trivial) (trE_ok (ks:=[[0,3,4]]) Tryd.func71 (by kernel_rfl)) fun a=>g43_run a.1 a.2
@[simp] theorem g43_app (y0 y1)(q0:List TV):g43_r [(.vp ((.vs (rows y0))::(.vs (rows y1))::q0))]=(spec_l32Text ((y0,y1))).map g43_O :=
  RlO_app (enc:=g43_E) (by intro a b h;simp [g43_E,Prod.ext_iff] at h ⊢;simp [h]) ((y0,y1),q0)
end
end Go.Proofs.TM
