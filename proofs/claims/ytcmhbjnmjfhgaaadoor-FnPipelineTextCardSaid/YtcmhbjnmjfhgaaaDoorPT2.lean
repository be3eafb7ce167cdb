/- Functions of the program, as functions of their data: written by program. -/
import Derived.Test.YtcmhbjnmjfhgaaaDoorPT1
namespace Go.Proofs.TM
open Go Go.Proofs
set_option linter.unusedVariables false
set_option linter.unusedSimpArgs false
set_option maxHeartbeats 1000000
attribute [-simp] Option.map_bind strV_some
attribute [simp] guardOn_bool sA_bslice Function.comp_def
noncomputable section
/-! impl.SamePipeline -/
def g38_tf:TFn:=⟨(sq [mk 4 (kb false)] [0,1] (.seq (.ops [mo 5 0,mo 6 1,ca 7 30 [.t 5,.t 6],mo 4 7]) (.keep (kp [(4,0)] [] 0) .ret))),[.t 4]⟩
abbrev g38_S:=Sys.on [(30,g2_r)] []
def impl_SamePipeline (a_a:List (Int×Int×Bool)) (a_b:List (Int×Int×Bool)):Option (Bool):=(slices_Equal_impl_Filter_impl_Filter_ a_a a_b).bind fun r1=>some r1
@[simp] def g38_O:Bool→TV×List Blk:=fun r=>((.bool r),[])
def g38_E (a:(List (Int×Int×Bool))×(List (Int×Int×Bool))):List TV:=[(.vs (rows a.1)),(.vs (rows a.2))]
theorem g38_run (a_a:List (Int×Int×Bool)) (a_b:List (Int×Int×Bool)) :callFn (X g38_S) g38_tf (g38_E (a_a,a_b)) []=(impl_SamePipeline a_a a_b).map g38_O:=by
  rw [callFn_eq]
  simp (maxSteps:=2000000) (maxDischargeDepth:=8) -implicitDefEqProofs [g38_tf,impl_SamePipeline,g38_E] <;> (try simp only [map_to_bind,some_elim,g38_O])
def g38_r:Rule:=RlO g38_E (fun a=>impl_SamePipeline a.1 a.2) g38_O
theorem g38_ok:RuleOk Tryd.prog 10 g38_r:=ok_rlo (S:=g38_S) (tf:=g38_tf) (SysOk.on ⟨g2_ok,trivial⟩ trivial) (trE_ok (ks:=[]) Tryd.func10 (by kernel_rfl)) fun a=>g38_run a.1 a.2
@[simp] theorem g38_app (y0 y1):g38_r [(.vs (rows y0)),(.vs (rows y1))]=(impl_SamePipeline y0 y1).map g38_O :=
  RlO_app (enc:=g38_E) (by intro a b h;simp [g38_E,Prod.ext_iff] at h ⊢;simp [h]) (y0,y1)
/-! spec.l00In -/
def g60_tf:TFn:=⟨(sq [mk 6 (kb false)] [0,1,2] (.seq (.after (.ops [mo 7 0,mo 8 1,bn 9 .geq (.t 7) (.t 8),mo 10 9,⟨(some 11),(some (10,true)),(.mv (.t 0))⟩,⟨(some 12),(some (10,true)),(.mv (.t 2))⟩,⟨(some 13),(some (10,true)),(.bin .num .leq (.t 11) (.t 12))⟩,pk 14 (.t 10) (.t 13) (kb false),mo 6 14]) (kp [(6,0)] [] 0)) (.keep (kp [(6,0)] [] 0) .ret))),[.t 6]⟩
abbrev g60_S:=Sys.on [] []
def spec_l00In (a_n:Int) (a_low:Int) (a_high:Int):Option (Bool):=if a_n ≥ a_low then some ((decide (a_n≤a_high))) else some false
@[simp] def g60_O:Bool→TV×List Blk:=fun r=>((.bool r),[])
def g60_E (a:Int×Int×Int):List TV:=[(.int .i64 a.1),(.int .i64 a.2.1),(.int .i64 a.2.2)]
theorem g60_run (a_n:Int) (a_low:Int) (a_high:Int) :callFn (X g60_S) g60_tf (g60_E (a_n,a_low,a_high)) []=(spec_l00In a_n a_low a_high).map g60_O:=by
  rw [callFn_eq]
  simp (maxSteps:=2000000) (maxDischargeDepth:=8) -implicitDefEqProofs [g60_tf,spec_l00In,g60_E] <;> (try simp only [map_to_bind,some_elim,g60_O])
def g60_r:Rule:=RlO g60_E (fun a=>spec_l00In a.1 a.2.1 a.2.2) g60_O
theorem g60_ok:RuleOk Tryd.prog 85 g60_r:=ok_rlo (S:=g60_S) (tf:=g60_tf) (SysOk.on trivial trivial) (trE_ok (ks:=[]) Tryd.func85 (by kernel_rfl)) fun a=>g60_run a.1 a.2.1 a.2.2
@[simp] theorem g60_app (y0 y1 y2):g60_r [(.int .i64 y0),(.int .i64 y1),(.int .i64 y2)]=(spec_l00In y0 y1 y2).map g60_O :=
  RlO_app (enc:=g60_E) (by intro a b h;simp [g60_E,Prod.ext_iff] at h ⊢;simp [h]) (y0,y1,y2)
/-! spec.l18Ok -/
def g61p1_c:TC:=(.cond (.t 35) (.seq (.ops [fa 38 1 1,ld 39 38,bn 40 .eql (.t 39) (ki 0),mo 2 40]) (.keep (kp [(2,0)] [] 0) .ret)) (.keep (kp [(1,0)] [(0,0)] 0) .skip))
def g61p2_c:TC:=(.seq (.after (.ops [fa 41 0 1,ld 42 41,bn 43 .eql (.t 42) (ki 5),mo 44 43,⟨(some 45),(some (44,true)),(.faddr 1 (.t 1))⟩,⟨(some 46),(some (44,true)),(.load none (.t 45))⟩,⟨(some 47),(some (44,true)),(.bin .num .eql (.t 46) (ki 0))⟩,pk 48 (.t 44) (.t 47) (kb false),mo 49 48,⟨(some 50),(some (49,true)),(.faddr 2 (.t 1))⟩,⟨(some 51),(some (49,true)),(.load none (.t 50))⟩,⟨(some 52),(some (49,true)),(.un .not (.t 51))⟩,pk 53 (.t 49) (.t 52) (kb false),mo 2 53]) (kp [(2,0)] [] 0)) (.keep (kp [(2,0)] [] 0) .ret))
def g61_tf:TFn:=⟨(sq [bx 1 0,mk 2 (kb false)] [1] (.seq (sq [fa 3 0 1,ld 4 3] [1,4] (.block 0 (sq [bn 6 .eql (.t 4) (ki 1),mo 5 6] [1,4,5] (.cond (.t 5) (.seq (.after (.ops [fa 7 1 1,ld 8 7,ca 9 85 [.t 8,ki 1,ki 24],mo 10 9,⟨(some 11),(some (10,true)),(.faddr 2 (.t 1))⟩,⟨(some 12),(some (10,true)),(.load none (.t 11))⟩,⟨(some 13),(some (10,true)),(.un .not (.t 12))⟩,pk 14 (.t 10) (.t 13) (kb false),mo 2 14]) (kp [(2,0)] [] 0)) (.keep (kp [(2,0)] [] 0) .ret)) (sq [bn 16 .eql (.t 4) (ki 2),mo 15 16] [1,4,15] (.cond (.t 15) (.seq (.after (.ops [fa 17 1 1,ld 18 17,bn 19 .eql (.t 18) (ki 1),mo 20 19,⟨(some 21),(some (20,false)),(.faddr 1 (.t 1))⟩,⟨(some 22),(some (20,false)),(.load none (.t 21))⟩,⟨(some 23),(some (20,false)),(.bin .num .eql (.t 22) (ki 2))⟩,pk 24 (.t 20) (kb true) (.t 23),mo 25 24,⟨(some 26),(some (25,false)),(.faddr 1 (.t 1))⟩,⟨(some 27),(some (25,false)),(.load none (.t 26))⟩,⟨(some 28),(some (25,false)),(.bin .num .eql (.t 27) (ki 4))⟩,pk 29 (.t 25) (kb true) (.t 28),mo 30 29,⟨(some 31),(some (30,true)),(.faddr 2 (.t 1))⟩,⟨(some 32),(some (30,true)),(.load none (.t 31))⟩,⟨(some 33),(some (30,true)),(.un .not (.t 32))⟩,pk 34 (.t 30) (.t 33) (kb false),mo 2 34]) (kp [(2,0)] [] 0)) (.keep (kp [(2,0)] [] 0) .ret)) (.seq (sq [bn 36 .eql (.t 4) (ki 3),mo 35 36] [1,4,35] (.cond (.t 35) (.keep (kp [(1,0),(35,0)] [(0,0)] 0) .skip) (.after (.ops [bn 37 .eql (.t 4) (ki 4),mo 35 37]) (kp [(1,0),(35,0)] [(0,0)] 0)))) (.trim [1,35] g61p1_c)))))))) (.trim [1] g61p2_c))),[.t 2]⟩
abbrev g61_S:=Sys.on [(85,g60_r)] []
@[reducible,simp] def g61p1_F:((Bool) ⊕ ((Int×Int×Bool)))→Out:=(Sum.elim (fun t=>(.ret,[(2,(.bool t))],[])) (fun t=>(.nrm,[(1,(.ptr 0 0 0))],[(.live 3 [[(.int .i64 t.1),(.int .i64 t.2.1),(.bool t.2.2)]])])))
def spec_l18Ok_p1 (v2:Int×Int×Bool) (v3:Bool):Option ((Bool) ⊕ ((Int×Int×Bool))):=if v3=true then some ((.inl ((decide (v2.2.1=0))))) else some ((.inr v2))
@[simp] theorem g61p1_eq (y0 y1 y2 y3):X g61_S g61p1_c [(1,(.ptr 0 0 0)),(35,(.bool y3))] [(.live 3 [[(.int .i64 y0),(.int .i64 y1),(.bool y2)]])]=(spec_l18Ok_p1 ((y0,y1,y2)) y3).map g61p1_F:=by
  simp (maxSteps:=2000000) (maxDischargeDepth:=8) -implicitDefEqProofs [g61p1_c,spec_l18Ok_p1] <;> (try simp only [map_to_bind,some_elim,g61p1_F])
@[reducible,simp] def g61p2_F:Bool→Out:=(fun t=>(.ret,[(2,(.bool t))],[]))
def spec_l18Ok_p2 (v10:Int×Int×Bool):Option (Bool):=if v10.1=5 then if v10.2.1=0 then some (((!v10.2.2))) else some false else some false
@[simp] theorem g61p2_eq (y0 y1 y2):X g61_S g61p2_c [(1,(.ptr 0 0 0))] [(.live 3 [[(.int .i64 y0),(.int .i64 y1),(.bool y2)]])]=(spec_l18Ok_p2 ((y0,y1,y2))).map g61p2_F:=by
  simp (maxSteps:=2000000) (maxDischargeDepth:=8) -implicitDefEqProofs [g61p2_c,spec_l18Ok_p2] <;> (try simp only [map_to_bind,some_elim,g61p2_F])
def spec_l18Ok (a_f:Int×Int×Bool):Option (Bool):=if a_f.1=1 then (spec_l00In a_f.2.1 1 24).bind fun r1=>if r1=true then some ((!a_f.2.2)) else some false else if a_f.1=2 then if a_f.2.1=1 then some ((!a_f.2.2)) else if a_f.2.1=2 then some ((!a_f.2.2)) else if a_f.2.1=4 then some ((!a_f.2.2)) else some false else if a_f.1=3 then (spec_l18Ok_p1 a_f ((decide (a_f.1=3)))).bind fun r4=>Sum.elim (fun u5=>some u5) (fun u6=>(spec_l18Ok_p2 u6).bind fun r11=>some r11) r4 else (spec_l18Ok_p1 a_f ((decide (a_f.1=4)))).bind fun r7=>Sum.elim (fun u8=>some u8) (fun u9=>(spec_l18Ok_p2 u9).bind fun r12=>some r12) r7
@[simp] def g61_O:Bool→TV×List Blk:=fun r=>((.bool r),[])
def g61_E (a:(Int×Int×Bool)):List TV:=[(.agg [(.int .i64 a.1),(.int .i64 a.2.1),(.bool a.2.2)])]
theorem g61_run (a_f:Int×Int×Bool) :callFn (X g61_S) g61_tf (g61_E a_f) []=(spec_l18Ok a_f).map g61_O:=by
  rw [callFn_eq]
  simp (maxSteps:=2000000) (maxDischargeDepth:=8) -implicitDefEqProofs [g61_tf,spec_l18Ok,g61_E] <;> (try simp only [map_to_bind,some_elim,g61_O])
def g61_r:Rule:=RlO g61_E (fun a=>spec_l18Ok a) g61_O
theorem g61_ok:RuleOk Tryd.prog 104 g61_r:=ok_rlo (S:=g61_S) (tf:=g61_tf) (SysOk.on ⟨g60_ok,trivial⟩ trivial) (trE_ok (ks:=[]) Tryd.func104 (by kernel_rfl)) fun a=>g61_run a
@[simp] theorem g61_app (y0 y1 y2):g61_r [(.agg [(.int .i64 y0),(.int .i64 y1),(.bool y2)])]=(spec_l18Ok ((y0,y1,y2))).map g61_O :=
  RlO_app (enc:=g61_E) (by intro a b h;simp [g61_E,Prod.ext_iff] at h ⊢;simp [h]) ((y0,y1,y2))
/-! spec.l19Ok -/
def g62l1_cb:TC:=(.seq (sq [mo 4 3,mo 5 0,le 6 5,bn 7 .lss (.t 4) (.t 6)] [0,3,7] (.cond (.t 7) .skip (.keep (kp [(0,0)] [] 0) (.exit 0)))) (.trim [0,3] (.seq (.block 1 (sq [mo 10 0,mo 11 3,ia 12 3 10 11,ln 13 3 12,ca 14 104 [.t 13],nt 15 14] [0,3,15] (.cond (.t 15) (.seq (.ops [mk 2 (kb false)]) (.keep (kp [(2,0)] [] 0) .ret)) .skip))) (.trim [0,3] (.after (.ops [mo 8 3,bn 9 .add (.t 8) (ki 1),mo 3 9]) (kp [(0,0),(3,0)] [] 0))))))
def g62l1_c:TC:=.loop [0,3] g62l1_cb
def g62_tf:TFn:=⟨(sq [mk 2 (kb false)] [0] (.seq (sq [mk 3 (ki 0)] [0,3] (.block 0 (.keep (kp [(0,0),(3,0)] [] 0) g62l1_c))) (.trim [0] (.seq (.ops [mo 16 0,le 17 16,bn 18 .leq (.t 17) (ki 4),mo 2 18]) (.keep (kp [(2,0)] [] 0) .ret))))),[.t 2]⟩
abbrev g62_S:=Sys.on [(104,g61_r)] []
@[reducible,simp] def g62l1_F:(((List (Int×Int×Bool))) ⊕ (Bool))→Out:=(Sum.elim (fun t=>(.ext 0,[(0,(.vs (rows t)))],[])) (fun t=>(.ret,[(2,(.bool t))],[])))
def spec_l19Ok_l1_b (v1:List (Int×Int×Bool)) (v2:Int):Option ((Int) ⊕ (((List (Int×Int×Bool))) ⊕ (Bool))):=if v2 < (v1.length:Int) then if 0≤v2 then (v1[(v2).toNat]?).bind fun x3=>(spec_l18Ok x3).bind fun r4=>if ¬(r4=true) then some (.inr (.inr false)) else some (.inl ((IntKind.i64.wrap (v2+1)))) else none else some (.inr (.inl v1))
theorem g62l1_b_eq  (v1:List (Int×Int×Bool)) (v2:Int):X g62_S g62l1_cb (keepEnv [0,3] [(0,(.vs (rows v1))),(3,(.int .i64 v2))]) []=(spec_l19Ok_l1_b v1 v2).map (Sum.elim (fun s=>(TX.nrm,[(0,(.vs (rows v1))),(3,(.int .i64 s))],[])) g62l1_F):=by
  simp (maxSteps:=2000000) (maxDischargeDepth:=8) -implicitDefEqProofs [g62l1_cb,spec_l19Ok_l1_b] <;> (try simp only [map_to_bind,some_elim,g62l1_F])
def spec_l19Ok_l1 (v1:List (Int×Int×Bool)) (s:Int):Option (((List (Int×Int×Bool))) ⊕ (Bool)):=loopO (fun s=>spec_l19Ok_l1_b v1 s) s
@[simp] theorem g62l1_eq (y0 y1):X g62_S g62l1_c [(0,(.vs (rows y0))),(3,(.int .i64 y1))] []=(spec_l19Ok_l1 y0 y1).map g62l1_F:=by
  exact loop_X _ _ _ _ (by intro r;first | (simp;done) | (rcases r with r | r <;> simp;done) | (rcases r with r | r | r <;> simp;done) | (rcases r with r | r | r | r <;> simp)) (fun s=>g62l1_b_eq  y0 s) y1
def spec_l19Ok (a_list:List (Int×Int×Bool)):Option (Bool):=(spec_l19Ok_l1 a_list 0).bind fun r5=>Sum.elim (fun u6=>some ((decide ((u6.length:Int)≤4)))) (fun u7=>some u7) r5
@[simp] def g62_O:Bool→TV×List Blk:=fun r=>((.bool r),[])
def g62_E (a:(List (Int×Int×Bool))):List TV:=[(.vs (rows a))]
theorem g62_run (a_list:List (Int×Int×Bool)) :callFn (X g62_S) g62_tf (g62_E a_list) []=(spec_l19Ok a_list).map g62_O:=by
  rw [callFn_eq]
  simp (maxSteps:=2000000) (maxDischargeDepth:=8) -implicitDefEqProofs [g62_tf,spec_l19Ok,g62_E] <;> (try simp only [map_to_bind,some_elim,g62_O])
def g62_r:Rule:=RlO g62_E (fun a=>spec_l19Ok a) g62_O
theorem g62_ok:RuleOk Tryd.prog 69 g62_r:=ok_rlo (S:=g62_S) (tf:=g62_tf) (SysOk.on ⟨g61_ok,trivial⟩ trivial) (trE_ok (ks:=[[0,3]]) Tryd.func69 (by kernel_rfl)) fun a=>g62_run a
@[simp] theorem g62_app (y0):g62_r [(.vs (rows y0))]=(spec_l19Ok y0).map g62_O :=
  RlO_app (enc:=g62_E) (by intro a b h;simp [g62_E,Prod.ext_iff] at h ⊢;simp [h]) y0
/-! spec.l01Bytes -/
def g49l1_cb:TC:=(.seq (sq [mo 8 6,mo 9 1,bn 10 .lss (.t 8) (.t 9)] [0,1,5,6,10] (.cond (.t 10) .skip (.keep (kp [(5,1)] [(0,1)] 0) (.exit 0)))) (.trim [0,1,5,6] (.seq (.block 1 (.ops [mo 13 5,mo 14 0,mo 15 6,oo 16 (.conv (.toInt .u64) (.t 15)),oo 17 (.bin .num .mul (.c (.int .u64 8)) (.t 16)),bn 18 .shr (.t 14) (.t 17),bn 19 .and (.t 18) (ki 255),oo 20 (.conv (.toInt .u8) (.t 19)),oo 21 (.bslice [(.int .u8 0)] 1 [(0,(.t 20))]),oo 22 (.append 5 1 1 (.t 13) (.t 21)),mo 5 22])) (.trim [0,1,5,6] (.after (.ops [mo 11 6,bn 12 .add (.t 11) (ki 1),mo 6 12]) (kp [(0,0),(1,0),(5,1),(6,0)] [(2,1)] 0))))))
def g49l1_c:TC:=.loop [0,1,5,6] g49l1_cb
def g49_tf:TFn:=⟨(sq [mk 4 (.c (.str []))] [0,1] (sq [oo 7 (.bslice [(.int .u8 0)] 0 []),mo 5 7] [0,1,5] (.seq (sq [mk 6 (ki 0)] [0,1,5,6] (.block 0 (.keep (kp [(0,0),(1,0),(5,1),(6,0)] [(1000,1)] 0) g49l1_c))) (.trim [5] (.seq (.ops [mo 23 5,oo 24 (.conv .toStr (.t 23)),mo 4 24]) (.keep (kp [(4,0)] [] 0) .ret)))))),[.t 4]⟩
abbrev g49_S:=Sys.on [] []
@[reducible,simp] def g49l1_F:(List Bt)→Out:=(fun t=>(.ext 0,[(5,(ow 0 t.length))],[(ob 1 t)]))
def spec_l01Bytes_l1_b (v1:Int) (v2:Int) (v3:List Bt) (v4:Int):Option ((List Bt×Int) ⊕ (List Bt)):=if v4 < v2 then if (IntKind.u64.wrap (8 * ((IntKind.u64.wrap v4)))) < 0 then none else (appL 1 v3 ((lit [(⟨UInt8.ofNat ((IntKind.u8.wrap ((bitV .and .i64 ((shrV .i64 v1 ((IntKind.u64.wrap (8 * ((IntKind.u64.wrap v4))))))) 255)))).toNat⟩:Bt)]:List Bt))).bind fun l5=>some (.inl (l5,(IntKind.i64.wrap (v4+1)))) else some (.inr v3)
theorem g49l1_b_eq  (v1:Int) (v2:Int) (v3:List Bt) (v4:Int):X g49_S g49l1_cb (keepEnv [0,1,5,6] [(0,(.int .i64 v1)),(1,(.int .i64 v2)),(5,(ow 0 v3.length)),(6,(.int .i64 v4))]) [(ob 1 v3)]=(spec_l01Bytes_l1_b v1 v2 v3 v4).map (Sum.elim (fun s=>(TX.nrm,[(0,(.int .i64 v1)),(1,(.int .i64 v2)),(5,(ow 0 s.1.length)),(6,(.int .i64 s.2))],[(ob 1 s.1)])) g49l1_F):=by
  simp (maxSteps:=2000000) (maxDischargeDepth:=8) -implicitDefEqProofs [g49l1_cb,spec_l01Bytes_l1_b,bslV_lit (α:=Bt) (zs:=[(.int .u8 0)])] <;> (try simp only [map_to_bind,some_elim,g49l1_F])
def spec_l01Bytes_l1 (v1:Int) (v2:Int) (s:List Bt×Int):Option (List Bt):=loopO (fun s=>spec_l01Bytes_l1_b v1 v2 s.1 s.2) s
@[simp] theorem g49l1_eq (y0 y1)(y2:List Bt)(y3){n1:Nat}(h1:n1=y2.length):X g49_S g49l1_c [(0,(.int .i64 y0)),(1,(.int .i64 y1)),(5,(ow 0 n1)),(6,(.int .i64 y3))] [(ob 1 y2)]=(spec_l01Bytes_l1 y0 y1 (y2,y3)).map g49l1_F:=by
  subst h1
  exact loop_X _ _ _ _ (by intro r;first | (simp;done) | (rcases r with r | r <;> simp;done) | (rcases r with r | r | r <;> simp;done) | (rcases r with r | r | r | r <;> simp)) (fun s=>g49l1_b_eq  y0 y1 s.1 s.2) (y2,y3)
@[simp] theorem g49l1_eq_2 (y0 y1 y2):X g49_S g49l1_c [(0,(.int .i64 y0)),(1,(.int .i64 y1)),(5,.es),(6,(.int .i64 y2))] [.dead]=(spec_l01Bytes_l1 y0 y1 (([]:List Bt),y2)).map g49l1_F :=
  g49l1_eq  y0 y1 ([]:List Bt) y2 rfl
def spec_l01Bytes (a_n:Int) (a_size:Int):Option (Str):=(spec_l01Bytes_l1 a_n a_size ((([]:List Bt),0))).bind fun r6=>some ((r6.map Bt.v))
@[simp] def g49_O:Str→TV×List Blk:=fun r=>((.str r),[])
def g49_E (a:Int×Int):List TV:=[(.int .i64 a.1),(.int .i64 a.2)]
theorem g49_run (a_n:Int) (a_size:Int) :callFn (X g49_S) g49_tf (g49_E (a_n,a_size)) []=(spec_l01Bytes a_n a_size).map g49_O:=by
  rw [callFn_eq]
  simp (maxSteps:=2000000) (maxDischargeDepth:=8) -implicitDefEqProofs [g49_tf,spec_l01Bytes,g49_E,bslV_lit (α:=Bt) (zs:=[(.int .u8 0)])] <;> (try simp only [map_to_bind,some_elim,g49_O])
def g49_r:Rule:=RlO g49_E (fun a=>spec_l01Bytes a.1 a.2) g49_O
theorem g49_ok:RuleOk Tryd.prog 105 g49_r:=ok_rlo (S:=g49_S) (tf:=g49_tf) (SysOk.on trivial trivial) (trE_ok (ks:=[[0,1,5,6]]) Tryd.func105 (by kernel_rfl)) fun a=>g49_run a.1 a.2
@[simp] theorem g49_app (y0 y1):g49_r [(.int .i64 y0),(.int .i64 y1)]=(spec_l01Bytes y0 y1).map g49_O :=
  RlO_app (enc:=g49_E) (by intro a b h;simp [g49_E,Prod.ext_iff] at h ⊢;simp [h]) (y0,y1)
/-! spec.l01PutUint -/
def g46p1_c:TC:=(.seq (.ops [mo 24 0,mo 25 1,ca 26 105 [.t 24,.t 25],mo 4 26]) (.keep (kp [(4,0)] [] 0) .ret))
def g46_tf:TFn:=⟨(sq [mk 4 (.c (.str []))] [0,1] (.seq (sq [mo 5 1,ca 6 85 [.t 5,ki 1,ki 8],nt 7 6,mo 8 7,⟨(some 9),(some (8,false)),(.mv (.t 0))⟩,⟨(some 10),(some (8,false)),(.bin .num .lss (.t 9) (ki 0))⟩,pk 11 (.t 8) (kb true) (.t 10),mo 12 11,⟨(some 13),(some (12,false)),(.mv (.t 1))⟩,⟨(some 14),(some (12,false)),(.bin .num .lss (.t 13) (ki 8))⟩,⟨(some 15),(some (12,false)),(.mv (.t 14))⟩,⟨(some 16),(some (15,true)),(.mv (.t 0))⟩,⟨(some 17),(some (15,true)),(.mv (.t 1))⟩,⟨(some 18),(some (15,true)),(.conv (.toInt .u64) (.t 17))⟩,⟨(some 19),(some (15,true)),(.bin .num .mul (.c (.int .u64 8)) (.t 18))⟩,⟨(some 20),(some (15,true)),(.bin .num .shr (.t 16) (.t 19))⟩,⟨(some 21),(some (15,true)),(.bin .num .neq (.t 20) (ki 0))⟩,⟨(some 22),(some (12,false)),(.pick (.t 15) (.t 21) (kb false))⟩,pk 23 (.t 12) (kb true) (.t 22)] [0,1,23] (.cond (.t 23) (.seq (.ops [mk 4 (.c (.str []))]) (.keep (kp [(4,0)] [] 0) .ret)) (.keep (kp [(0,0),(1,0)] [] 0) .skip))) (.trim [0,1] g46p1_c))),[.t 4]⟩
abbrev g46_S:=Sys.on [(85,g60_r),(105,g49_r)] []
@[reducible,simp] def g46p1_F:Str→Out:=(fun t=>(.ret,[(4,(.str t))],[]))
def spec_l01PutUint_p1 (v2:Int) (v3:Int):Option (Str):=(spec_l01Bytes v2 v3).bind fun r4=>some r4
@[simp] theorem g46p1_eq (y0 y1):X g46_S g46p1_c [(0,(.int .i64 y0)),(1,(.int .i64 y1))] []=(spec_l01PutUint_p1 y0 y1).map g46p1_F:=by
  simp (maxSteps:=2000000) (maxDischargeDepth:=8) -implicitDefEqProofs [g46p1_c,spec_l01PutUint_p1] <;> (try simp only [map_to_bind,some_elim,g46p1_F])
def spec_l01PutUint (a_n:Int) (a_size:Int):Option (Str):=(spec_l00In a_size 1 8).bind fun r1=>if ¬(r1=true) then some (([]:Str)) else if a_n < 0 then some (([]:Str)) else if a_size < 8 then if (IntKind.u64.wrap (8 * ((IntKind.u64.wrap a_size)))) < 0 then none else if ¬((shrV .i64 a_n ((IntKind.u64.wrap (8 * ((IntKind.u64.wrap a_size))))))=0) then some (([]:Str)) else (spec_l01PutUint_p1 a_n a_size).bind fun r5=>some r5 else (spec_l01PutUint_p1 a_n a_size).bind fun r6=>some r6
@[simp] def g46_O:Str→TV×List Blk:=fun r=>((.str r),[])
def g46_E (a:Int×Int):List TV:=[(.int .i64 a.1),(.int .i64 a.2)]
theorem g46_run (a_n:Int) (a_size:Int) :callFn (X g46_S) g46_tf (g46_E (a_n,a_size)) []=(spec_l01PutUint a_n a_size).map g46_O:=by
  rw [callFn_eq]
  simp (maxSteps:=2000000) (maxDischargeDepth:=8) -implicitDefEqProofs [g46_tf,spec_l01PutUint,g46_E] <;> (try simp only [map_to_bind,some_elim,g46_O])
def g46_r:Rule:=RlO g46_E (fun a=>spec_l01PutUint a.1 a.2) g46_O
theorem g46_ok:RuleOk Tryd.prog 70 g46_r:=ok_rlo (S:=g46_S) (tf:=g46_tf) (SysOk.on ⟨g60_ok,g49_ok,trivial⟩ trivial) (trE_ok (ks:=[]) Tryd.func70 (by kernel_rfl)) fun a=>g46_run a.1 a.2
@[simp] theorem g46_app (y0 y1):g46_r [(.int .i64 y0),(.int .i64 y1)]=(spec_l01PutUint y0 y1).map g46_O :=
  RlO_app (enc:=g46_E) (by intro a b h;simp [g46_E,Prod.ext_iff] at h ⊢;simp [h]) (y0,y1)
/-! spec.l19Flag -/
def g57_tf:TFn:=⟨(sq [mk 2 (ki 0)] [0] (.seq (sq [mo 3 0] [3] (.cond (.t 3) (.seq (.ops [mk 2 (ki 1)]) (.keep (kp [(2,0)] [] 0) .ret)) .skip)) (.trim [] (.seq (.ops [mk 2 (ki 0)]) (.keep (kp [(2,0)] [] 0) .ret))))),[.t 2]⟩
abbrev g57_S:=Sys.on [] []
def spec_l19Flag (a_b:Bool):Option (Int):=if a_b=true then some 1 else some 0
@[simp] def g57_O:Int→TV×List Blk:=fun r=>((.int .i64 r),[])
def g57_E (a:Bool):List TV:=[(.bool a)]
theorem g57_run (a_b:Bool) :callFn (X g57_S) g57_tf (g57_E a_b) []=(spec_l19Flag a_b).map g57_O:=by
  rw [callFn_eq]
  simp (maxSteps:=2000000) (maxDischargeDepth:=8) -implicitDefEqProofs [g57_tf,spec_l19Flag,g57_E] <;> (try simp only [map_to_bind,some_elim,g57_O])
def g57_r:Rule:=RlO g57_E (fun a=>spec_l19Flag a) g57_O
theorem g57_ok:RuleOk Tryd.prog 71 g57_r:=ok_rlo (S:=g57_S) (tf:=g57_tf) (SysOk.on trivial trivial) (trE_ok (ks:=[]) Tryd.func71 (by kernel_rfl)) fun a=>g57_run a
@[simp] theorem g57_app (y0):g57_r [(.bool y0)]=(spec_l19Flag y0).map g57_O :=
  RlO_app (enc:=g57_E) (by intro a b h;simp [g57_E,Prod.ext_iff] at h ⊢;simp [h]) y0
/-! spec.EncodePipeline -/
def g29l1_cb:TC:=(.seq (sq [mo 12 4,mo 13 0,le 14 13,bn 15 .lss (.t 12) (.t 14)] [0,3,4,15] (.cond (.t 15) .skip (.keep (kp [(3,0)] [] 0) (.exit 0)))) (.trim [0,3,4] (.seq (.block 1 (sq [mo 18 0,mo 19 4,ia 20 3 18 19,ln 21 3 20,oo 5 (.alloc [(.int .i64 0),(.int .i64 0),(.bool false)]),⟨none,none,(.store 3 (.t 5) (.t 21))⟩] [0,3,4,5] (.draw [([],mo 22 3),([],fa 23 0 5),([1],ld 24 23),([1,2],ca 25 70 [.t 24,ki 1]),([],fa 26 1 5),([4],ld 27 26),([1,2,3,4,5],ca 28 70 [.t 27,ki 1]),([1,2,3,4,5,6],oo 29 (.bin .str .add (.t 25) (.t 28))),([],fa 30 2 5),([8],ld 31 30),([1,2,3,4,5,6,8,9],ca 32 71 [.t 31]),([1,2,3,4,5,6,8,9,10],ca 33 70 [.t 32,ki 1]),([1,2,3,4,5,6,7,8,9,10,11],oo 34 (.bin .str .add (.t 29) (.t 33)))] [oo 35 (.bin .str .add (.t 22) (.t 34)),mo 3 35]))) (.trim [0,3,4] (.after (.ops [mo 16 4,bn 17 .add (.t 16) (ki 1),mo 4 17]) (kp [(0,0),(3,0),(4,0)] [] 0))))))
def g29l1_c:TC:=.loop [0,3,4] g29l1_cb
def g29_tf:TFn:=⟨(sq [mk 2 (.c (.str []))] [0] (.seq (sq [mo 6 0,ca 7 69 [.t 6],nt 8 7] [0,8] (.cond (.t 8) (.seq (.ops [mk 2 (.c (.str []))]) (.keep (kp [(2,0)] [] 0) .ret)) .skip)) (.trim [0] (sq [mo 9 0,le 10 9,ca 11 70 [.t 10,ki 1],mo 3 11] [0,3] (.seq (sq [mk 4 (ki 0)] [0,3,4] (.block 0 (.keep (kp [(0,0),(3,0),(4,0)] [] 0) g29l1_c))) (.trim [3] (.seq (.ops [mo 36 3,mo 2 36]) (.keep (kp [(2,0)] [] 0) .ret)))))))),[.t 2]⟩
abbrev g29_S:=Sys.on [(69,g62_r),(70,g46_r),(71,g57_r)] []
@[reducible,simp] def g29l1_F:Str→Out:=(fun t=>(.ext 0,[(3,(.str t))],[]))
def spec_EncodePipeline_l1_b (v3:List (Int×Int×Bool)) (v4:Str) (v5:Int):Option ((Str×Int) ⊕ (Str)):=if v5 < (v3.length:Int) then if 0≤v5 then (v3[(v5).toNat]?).bind fun x6=>(spec_l01PutUint x6.1 1).bind fun r7=>(spec_l01PutUint x6.2.1 1).bind fun r8=>if r7.length+r8.length≤9223372036854775807 then (spec_l19Flag x6.2.2).bind fun r9=>(spec_l01PutUint r9 1).bind fun r10=>if ((r7++r8)).length+r10.length≤9223372036854775807 then if v4.length+(((r7++r8)++r10)).length≤9223372036854775807 then some (.inl ((v4++((r7++r8)++r10)),(IntKind.i64.wrap (v5+1)))) else none else none else none else none else some (.inr v4)
theorem g29l1_b_eq  (v3:List (Int×Int×Bool)) (v4:Str) (v5:Int):X g29_S g29l1_cb (keepEnv [0,3,4] [(0,(.vs (rows v3))),(3,(.str v4)),(4,(.int .i64 v5))]) []=(spec_EncodePipeline_l1_b v3 v4 v5).map (Sum.elim (fun s=>(TX.nrm,[(0,(.vs (rows v3))),(3,(.str s.1)),(4,(.int .i64 s.2))],[])) g29l1_F):=by
  simp (maxSteps:=2000000) (maxDischargeDepth:=8) -implicitDefEqProofs [g29l1_cb,spec_EncodePipeline_l1_b] <;> (try simp only [map_to_bind,some_elim,g29l1_F])
def spec_EncodePipeline_l1 (v3:List (Int×Int×Bool)) (s:Str×Int):Option (Str):=loopO (fun s=>spec_EncodePipeline_l1_b v3 s.1 s.2) s
@[simp] theorem g29l1_eq (y0 y1 y2):X g29_S g29l1_c [(0,(.vs (rows y0))),(3,(.str y1)),(4,(.int .i64 y2))] []=(spec_EncodePipeline_l1 y0 (y1,y2)).map g29l1_F:=by
  exact loop_X _ _ _ _ (by intro r;first | (simp;done) | (rcases r with r | r <;> simp;done) | (rcases r with r | r | r <;> simp;done) | (rcases r with r | r | r | r <;> simp)) (fun s=>g29l1_b_eq  y0 s.1 s.2) (y1,y2)
def spec_EncodePipeline (a_list:List (Int×Int×Bool)):Option (Str):=(spec_l19Ok a_list).bind fun r1=>if ¬(r1=true) then some (([]:Str)) else (spec_l01PutUint ((a_list.length:Int)) 1).bind fun r2=>(spec_EncodePipeline_l1 a_list ((r2,0))).bind fun r11=>some r11
@[simp] def g29_O:Str→TV×List Blk:=fun r=>((.str r),[])
def g29_E (a:(List (Int×Int×Bool))):List TV:=[(.vs (rows a))]
theorem g29_run (a_list:List (Int×Int×Bool)) :callFn (X g29_S) g29_tf (g29_E a_list) []=(spec_EncodePipeline a_list).map g29_O:=by
  rw [callFn_eq]
  simp (maxSteps:=2000000) (maxDischargeDepth:=8) -implicitDefEqProofs [g29_tf,spec_EncodePipeline,g29_E] <;> (try simp only [map_to_bind,some_elim,g29_O])
def g29_r:Rule:=RlO g29_E (fun a=>spec_EncodePipeline a) g29_O
theorem g29_ok:RuleOk Tryd.prog 34 g29_r:=ok_rlo (S:=g29_S) (tf:=g29_tf) (SysOk.on ⟨g62_ok,g46_ok,g57_ok,trivial⟩ trivial) (trE_ok (ks:=[[0,3,4],[13]]) Tryd.func34 (by kernel_rfl)) fun a=>g29_run a
@[simp] theorem g29_app (y0):g29_r [(.vs (rows y0))]=(spec_EncodePipeline y0).map g29_O :=
  RlO_app (enc:=g29_E) (by intro a b h;simp [g29_E,Prod.ext_iff] at h ⊢;simp [h]) y0
/-! spec.l18Spoilt -/
def g32_tf:TFn:=⟨(sq [mk 4 (.c (.str []))] [0,1] (sq [mo 7 1,oo 8 (.conv .toBytes (.t 7)),mo 5 8] [0,5] (.seq (sq [mo 9 0,oo 10 (.callM 37 0 [0] [.t 9,ki 6])] [0,5,10] (.block 0 (sq [bn 12 .eql (.t 10) (ki 0),mo 11 12] [0,5,10,11] (.cond (.t 11) (sq [mo 13 5,le 14 13,bn 15 .gtr (.t 14) (ki 0)] [0,5,15] (.cond (.t 15) (sq [mo 16 0,mo 17 5,le 18 17,oo 19 (.callM 37 0 [0] [.t 16,.t 18]),mo 6 19] [0,5,6] (.after (.ops [mo 20 5,mo 21 6,mo 22 0,oo 23 (.callM 72 0 [0] [.t 22]),oo 24 (.conv (.toInt .u8) (.t 23)),ia 25 1 20 21,⟨none,none,(.store 1 (.t 25) (.t 24))⟩,⟨(some 5),none,(.frz [1] (.t 5))⟩]) (kp [(5,0)] [(0,0)] 1))) (.fz 5 [1] (.keep (kp [(5,0)] [(0,0)] 1) .skip)))) (sq [bn 27 .eql (.t 10) (ki 1),mo 26 27] [0,5,10,26] (.cond (.t 26) (.after (.ops [mo 28 5,mo 29 0,oo 30 (.callM 72 0 [0] [.t 29]),oo 31 (.conv (.toInt .u8) (.t 30)),oo 32 (.bslice [(.int .u8 0)] 1 [(0,(.t 31))]),oo 33 (.append 5 1 1 (.t 28) (.t 32)),mo 5 33,⟨(some 5),none,(.frz [3] (.t 5))⟩]) (kp [(5,0)] [(0,0)] 1)) (sq [bn 35 .eql (.t 10) (ki 2),mo 34 35] [0,5,34] (.cond (.t 34) (sq [mo 36 5,le 37 36,bn 38 .gtr (.t 37) (ki 0)] [0,5,38] (.cond (.t 38) (.after (.ops [mo 39 5,mo 40 0,mo 41 5,le 42 41,oo 43 (.callM 37 0 [0] [.t 40,.t 42]),⟨(some 39),none,(.frz [1] (.t 39))⟩,oo 44 (.slice 1 (.t 39) none (some (.t 43)) none),mo 5 44]) (kp [(5,0)] [(0,0)] 1)) (.fz 5 [1] (.keep (kp [(5,0)] [(0,0)] 1) .skip)))) (.fz 5 [1] (.keep (kp [(5,0)] [(0,0)] 1) .skip)))))))))) (.trim [5] (.seq (.ops [mo 45 5,oo 46 (.conv .toStr (.t 45)),mo 4 46]) (.keep (kp [(4,0)] [(0,0)] 1) .ret)))))),[.t 4]⟩
abbrev g32_S:=Sys.on [] [((37,0),(1,g22_r)),((72,0),(1,g21_r))]
def spec_l18Spoilt_o46 (a1:List Bt) (a2:Int) (a3:Int) (a4:Str):Option (List Bt×Int×Int×Str):=(bytL a4).bind fun l1=>(spec_l00Src_pick_o30 a1 a2 a3 6).bind fun r2=>if r2.2.2.2=0 then if ((l1.length:Nat):Int) > 0 then (spec_l00Src_pick_o30 r2.1 r2.2.1 r2.2.2.1 (((l1.length:Nat):Int))).bind fun r3=>(spec_l00Src_next_o9d r3.1 r3.2.1 r3.2.2.1).bind fun r4=>if 0≤r3.2.2.2∧r3.2.2.2 < ((l1.length:Nat):Int) then (l1[(r3.2.2.2).toNat]?).bind fun x5=>some (r4.1,r4.2.1,r4.2.2.1,(((l1.set (r3.2.2.2).toNat (⟨UInt8.ofNat ((IntKind.u8.wrap r4.2.2.2)).toNat⟩:Bt))).map Bt.v)) else none else some (r2.1,r2.2.1,r2.2.2.1,(l1.map Bt.v)) else if r2.2.2.2=1 then (spec_l00Src_next_o9d r2.1 r2.2.1 r2.2.2.1).bind fun r6=>(appL 1 l1 ((lit [(⟨UInt8.ofNat ((IntKind.u8.wrap r6.2.2.2)).toNat⟩:Bt)]:List Bt))).bind fun l7=>some (r6.1,r6.2.1,r6.2.2.1,(l7.map Bt.v)) else if r2.2.2.2=2 then if ((l1.length:Nat):Int) > 0 then (spec_l00Src_pick_o30 r2.1 r2.2.1 r2.2.2.1 (((l1.length:Nat):Int))).bind fun r8=>(subL l1 none (some r8.2.2.2)).bind fun l9=>some (r8.1,r8.2.1,r8.2.2.1,(l9.map Bt.v)) else some (r2.1,r2.2.1,r2.2.2.1,(l1.map Bt.v)) else some (r2.1,r2.2.1,r2.2.2.1,(l1.map Bt.v))
@[simp] def g32_O:(List Bt×Int×Int×Str)→TV×List Blk:=fun r=>((.str r.2.2.2),[(.live 3 [[(.vs (rows r.1)),(.int .i64 r.2.1),(.int .u64 r.2.2.1)]])])
abbrev g32_T:=List Bt×Int×Int×Str
def g32_E (a:g32_T):List TV:=[(.ptr 0 0 0),(.str a.2.2.2)]
def g32_B (a:g32_T):List Blk:=[(.live 3 [[(.vs (rows a.1)),(.int .i64 a.2.1),(.int .u64 a.2.2.1)]])]
theorem g32_run (a1:List Bt) (a2:Int) (a3:Int) (a4:Str) :callFn (X g32_S) g32_tf (g32_E (a1,a2,a3,a4)) (g32_B (a1,a2,a3,a4))=(spec_l18Spoilt_o46 a1 a2 a3 a4).map g32_O:=by
  rw [callFn_eq]
  simp (maxSteps:=2000000) (maxDischargeDepth:=8) -implicitDefEqProofs [g32_tf,spec_l18Spoilt_o46,g32_E,g32_B,bslV_lit (α:=Bt) (zs:=[(.int .u8 0)])] <;> (try simp only [map_to_bind,some_elim,g32_O])
def g32_r:MRule:=RmO g32_E g32_B (fun a=>spec_l18Spoilt_o46 a.1 a.2.1 a.2.2.1 a.2.2.2) g32_O
theorem g32_ok:MRuleOk Tryd.prog 35 1 g32_r:=ok_rmo (S:=g32_S) (tf:=g32_tf) (SysOk.on trivial ⟨g22_ok,g21_ok,trivial⟩) (trE_ok (ks:=[]) Tryd.func35 (by kernel_rfl)) (by rfl) (fun _=>by simp [g32_B]) (fun _=>by simp) fun a=>g32_run a.1 a.2.1 a.2.2.1 a.2.2.2
@[simp] theorem g32_app (y0 y1 y2 y3):g32_r [(.ptr 0 0 0),(.str y3)] [(.live 3 [[(.vs (rows y0)),(.int .i64 y1),(.int .u64 y2)]])]=(spec_l18Spoilt_o46 y0 y1 y2 y3).map g32_O:=by
  exact RmO_app (enc:=g32_E) (encB:=g32_B) (by intro a b h h2;simp [g32_E,g32_B,Prod.ext_iff] at h h2 ⊢;simp [h,h2]) (y0,y1,y2,y3)
/-! spec.DrawDecodePipeline -/
def g11_tf:TFn:=⟨(sq [mk 2 (.c (.str []))] [0] (sq [mo 5 0,ca 6 23 [.t 5],mo 3 6] [3] (sq [mo 7 3,oo 8 (.callM 24 0 [0] [.t 7]),ca 9 34 [.t 8],mo 4 9] [3,4] (.seq (.ops [mo 10 3,mo 11 4,oo 12 (.callM 35 0 [0] [.t 10,.t 11]),mo 2 12]) (.keep (kp [(2,0)] [] 0) .ret))))),[.t 2]⟩
abbrev g11_S:=Sys.on [(23,g51_r),(34,g29_r)] [((24,0),(1,g41_r)),((35,0),(1,g32_r))]
def spec_DrawDecodePipeline (a_code:List Bt):Option (Str):=(spec_l00From a_code).bind fun r1=>(spec_l19Draw_o9d r1.1 r1.2.1 r1.2.2).bind fun r2=>(spec_EncodePipeline r2.2.2.2).bind fun r3=>(spec_l18Spoilt_o46 r2.1 r2.2.1 r2.2.2.1 r3).bind fun r4=>some r4.2.2.2
@[simp] def g11_O:Str→TV×List Blk:=fun r=>((.str r),[])
def g11_E (a:List Bt):List TV:=[(.vs (rows a))]
theorem g11_run (a_code:List Bt) :callFn (X g11_S) g11_tf (g11_E a_code) []=(spec_DrawDecodePipeline a_code).map g11_O:=by
  rw [callFn_eq]
  simp (maxSteps:=2000000) (maxDischargeDepth:=8) -implicitDefEqProofs [g11_tf,spec_DrawDecodePipeline,g11_E] <;> (try simp only [map_to_bind,some_elim,g11_O])
def g11_r:Rule:=RlO g11_E (fun a=>spec_DrawDecodePipeline a) g11_O
theorem g11_ok:RuleOk Tryd.prog 12 g11_r:=ok_rlo (S:=g11_S) (tf:=g11_tf) (SysOk.on ⟨g51_ok,g29_ok,trivial⟩ ⟨g41_ok,g32_ok,trivial⟩) (trE_ok (ks:=[]) Tryd.func12 (by kernel_rfl)) fun a=>g11_run a
@[simp] theorem g11_app (y0):g11_r [(.vs (rows y0))]=(spec_DrawDecodePipeline y0).map g11_O :=
  RlO_app (enc:=g11_E) (by intro a b h;simp [g11_E,Prod.ext_iff] at h ⊢;simp [h]) y0
/-! spec.l19Words -/
def g50_tf:TFn:=⟨(sq [mk 0 (.c .nils)] [] (.seq (.ops [oo 1 (.bslice [(.str [])] 6 [(0,(.c (.str []))),(1,(.c (.str [115,104,117,102,102,108,101]))),(2,(.c (.str [100,101,108,116,97]))),(3,(.c (.str [114,117,110]))),(4,(.c (.str [108,122]))),(5,(.c (.str [115,117,109])))]),mo 0 1]) (.keep (kp [(0,1)] [(0,1)] 0) .ret))),[.t 0]⟩
abbrev g50_S:=Sys.on [] []
def spec_l19Words :Option (List Str):=some ((lit [([]:Str),([115,104,117,102,102,108,101]:Str),([100,101,108,116,97]:Str),([114,117,110]:Str),([108,122]:Str),([115,117,109]:Str)]:List Str))
@[simp] def g50_O:List Str→TV×List Blk:=fun r=>((ow 0 r.length),[(ob 1 r)])
def g50_E (a:Unit):List TV:=[]
theorem g50_run  :callFn (X g50_S) g50_tf (g50_E ()) []=(spec_l19Words ).map g50_O:=by
  rw [callFn_eq]
  simp (maxSteps:=2000000) (maxDischargeDepth:=8) -implicitDefEqProofs [g50_tf,spec_l19Words,g50_E,bslV_lit (α:=Str) (zs:=[(.str [])])] <;> (try simp only [map_to_bind,some_elim,g50_O])
def g50_r:Rule:=RlO g50_E (fun a=>spec_l19Words ) g50_O
theorem g50_ok:RuleOk Tryd.prog 73 g50_r:=ok_rlo (S:=g50_S) (tf:=g50_tf) (SysOk.on trivial trivial) (trE_ok (ks:=[]) Tryd.func73 (by kernel_rfl)) fun a=>g50_run 
@[simp] theorem g50_app :g50_r []=(spec_l19Words ).map g50_O :=
  RlO_app (enc:=g50_E) (by intro a b h;rfl) ()
/-! spec.l05Digits -/
def g47_tf:TFn:=⟨(sq [mk 2 (.c (.str []))] [0] (.seq (sq [mo 3 0,bn 4 .lss (.t 3) (ki 0)] [0,4] (.cond (.t 4) (.seq (.ops [mo 5 0,oo 6 (.un .neg (.t 5)),ca 7 74 [.t 6],oo 8 (.bin .str .add (.c (.str [45])) (.t 7)),mo 2 8]) (.keep (kp [(2,0)] [] 0) .ret)) .skip)) (.trim [0] (.seq (sq [mo 9 0,bn 10 .lss (.t 9) (ki 10)] [0,10] (.cond (.t 10) (.seq (.ops [mo 11 0,bn 12 .add (ki 48) (.t 11),oo 13 (.conv (.toInt .u8) (.t 12)),oo 14 (.bslice [(.int .u8 0)] 1 [(0,(.t 13))]),oo 15 (.conv .toStr (.t 14)),mo 2 15]) (.keep (kp [(2,0)] [] 0) .ret)) .skip)) (.trim [0] (.seq (.draw [([],mo 16 0),([0],bn 17 .quo (.t 16) (ki 10)),([0,1],ca 18 74 [.t 17]),([],mo 19 0),([3],bn 20 .rem (.t 19) (ki 10)),([3,4],bn 21 .add (ki 48) (.t 20)),([3,4,5],oo 22 (.conv (.toInt .u8) (.t 21))),([3,4,5,6],oo 23 (.bslice [(.int .u8 0)] 1 [(0,(.t 22))])),([3,4,5,6,7],oo 24 (.conv .toStr (.t 23)))] [oo 25 (.bin .str .add (.t 18) (.t 24)),mo 2 25]) (.keep (kp [(2,0)] [] 0) .ret))))))),[.t 2]⟩
@[simp] def g47_O:Str→TV×List Blk:=fun r=>((.str r),[])
def g47_E (a:Int):List TV:=[(.int .i64 a)]
abbrev spec_l05Digits_R:=(Int→Option (Str))
def spec_l05Digits_q (r:spec_l05Digits_R):Rule:=RlO g47_E (fun a=>r a) g47_O
@[simp] theorem spec_l05Digits_qapp {r:spec_l05Digits_R} (a_n:Int) :(spec_l05Digits_q r) [(.int .i64 a_n)]=(r a_n).map g47_O :=
  RlO_app (enc:=g47_E) (by intro a b h;simp [g47_E,Prod.ext_iff] at h ⊢;simp [h]) a_n
abbrev g47_S (r:spec_l05Digits_R):=Sys.on [(74,spec_l05Digits_q r)] []
def spec_l05Digits_W (r:spec_l05Digits_R) (a_n:Int):Option (Str):=if a_n < 0 then (r ((IntKind.i64.wrap (0 - a_n)))).bind fun r1=>if (([45]:Str)).length+r1.length≤9223372036854775807 then some ((([45]:Str)++r1)) else none else if a_n < 10 then some ((((lit [(⟨UInt8.ofNat ((IntKind.u8.wrap ((IntKind.i64.wrap (48+a_n))))).toNat⟩:Bt)]:List Bt)).map Bt.v)) else (r ((IntKind.i64.wrap (Int.tdiv a_n 10)))).bind fun r2=>if r2.length+((((lit [(⟨UInt8.ofNat ((IntKind.u8.wrap ((IntKind.i64.wrap (48+(Int.tmod a_n 10)))))).toNat⟩:Bt)]:List Bt)).map Bt.v)).length≤9223372036854775807 then some ((r2++(((lit [(⟨UInt8.ofNat ((IntKind.u8.wrap ((IntKind.i64.wrap (48+(Int.tmod a_n 10)))))).toNat⟩:Bt)]:List Bt)).map Bt.v))) else none
theorem g47_run {r:spec_l05Digits_R} (a_n:Int) :callFn (X (g47_S r)) g47_tf (g47_E a_n) []=(spec_l05Digits_W r a_n).map g47_O:=by
  rw [callFn_eq]
  simp (maxSteps:=2000000) (maxDischargeDepth:=8) -implicitDefEqProofs [g47_tf,spec_l05Digits_W,g47_E,bslV_lit (α:=Bt) (zs:=[(.int .u8 0)])] <;> (try simp only [map_to_bind,some_elim,g47_O])
noncomputable def spec_l05Digits_it (n:Nat):spec_l05Digits_R:=Nat.rec (motive:=fun _=>spec_l05Digits_R) (fun _=>none) (fun _ r=>(spec_l05Digits_W r)) n
noncomputable def spec_l05Digits (a_n:Int):Option (Str):=evO fun n=>((spec_l05Digits_it n)) a_n
theorem spec_l05Digits_oks:∀ n,(RuleOk Tryd.prog 74 (spec_l05Digits_q (spec_l05Digits_it n)))
  | 0=>ok_none (tf:=g47_tf) (trE_ok (ks:=[[9]]) Tryd.func74 (by kernel_rfl))
  | n+1=>by
    have ih:=spec_l05Digits_oks n
    exact ok_rlo (S:=(g47_S (spec_l05Digits_it n))) (tf:=g47_tf) (SysOk.on ⟨(ih),trivial⟩ trivial) (trE_ok (ks:=[[9]]) Tryd.func74 (by kernel_rfl)) fun a=>g47_run a
def g47_r:Rule:=RlO g47_E (fun a=>spec_l05Digits a) g47_O
@[simp] theorem g47_app (y0):g47_r [(.int .i64 y0)]=(spec_l05Digits y0).map g47_O :=
  RlO_app (enc:=g47_E) (by intro a b h;simp [g47_E,Prod.ext_iff] at h ⊢;simp [h]) y0
theorem g47_ok:RuleOk Tryd.prog 74 g47_r:=ok_ev fun n=>(spec_l05Digits_oks n)
/-! spec.PipelineText -/
def g39p3_c:TC:=(sq [fa 43 2 5,ld 44 43] [0,3,4,44] (.cond (.t 44) (.after (.ops [mo 45 3,oo 46 (.bin .str .add (.t 45) (.c (.str [63]))),mo 3 46]) (kp [(0,0),(3,0),(4,0)] [] 0)) (.keep (kp [(0,0),(3,0),(4,0)] [] 0) .skip)))
def g39p2_c:TC:=(.seq (.draw [([],mo 26 3),([],ca 27 73 []),([],fa 28 0 5),([2],ld 29 28),([1,2,3],ia 30 1 27 29),([1,2,3,4],ld 31 30)] [oo 32 (.bin .str .add (.t 26) (.t 31)),mo 3 32]) (.trim [0,3,4,5] (.seq (sq [fa 33 1 5,ld 34 33,bn 35 .gtr (.t 34) (ki 0)] [0,3,4,5,35] (.cond (.t 35) (.after (.ops [mo 36 3,fa 37 1 5,ld 38 37,ca 39 74 [.t 38],oo 40 (.bin .str .add (.c (.str [40])) (.t 39)),oo 41 (.bin .str .add (.t 40) (.c (.str [41]))),oo 42 (.bin .str .add (.t 36) (.t 41)),mo 3 42]) (kp [(0,0),(3,0),(4,0),(5,0)] [(0,0)] 0)) (.keep (kp [(0,0),(3,0),(4,0),(5,0)] [(0,0)] 0) .skip))) (.trim [0,3,4,5] g39p3_c))))
def g39l1_cb:TC:=(.seq (sq [mo 12 4,mo 13 0,le 14 13,bn 15 .lss (.t 12) (.t 14)] [0,3,4,15] (.cond (.t 15) .skip (.keep (kp [(3,0)] [] 0) (.exit 0)))) (.trim [0,3,4] (.seq (.block 1 (sq [mo 18 0,mo 19 4,ia 20 3 18 19,ln 21 3 20,oo 5 (.alloc [(.int .i64 0),(.int .i64 0),(.bool false)]),⟨none,none,(.store 3 (.t 5) (.t 21))⟩] [0,3,4,5] (.seq (sq [mo 22 4,bn 23 .gtr (.t 22) (ki 0)] [0,3,4,5,23] (.cond (.t 23) (.after (.ops [mo 24 3,oo 25 (.bin .str .add (.t 24) (.c (.str [43]))),mo 3 25]) (kp [(0,0),(3,0),(4,0),(5,0)] [(0,0)] 0)) (.keep (kp [(0,0),(3,0),(4,0),(5,0)] [(0,0)] 0) .skip))) (.trim [0,3,4,5] g39p2_c)))) (.trim [0,3,4] (.after (.ops [mo 16 4,bn 17 .add (.t 16) (ki 1),mo 4 17]) (kp [(0,0),(3,0),(4,0)] [] 0))))))
def g39l1_c:TC:=.loop [0,3,4] g39l1_cb
def g39_tf:TFn:=⟨(sq [mk 2 (.c (.str []))] [0] (.seq (sq [mo 6 0,ca 7 69 [.t 6],nt 8 7] [0,8] (.cond (.t 8) (.seq (.ops [mk 2 (.c (.str []))]) (.keep (kp [(2,0)] [] 0) .ret)) .skip)) (.trim [0] (.seq (sq [mo 9 0,le 10 9,bn 11 .eql (.t 10) (ki 0)] [0,11] (.cond (.t 11) (.seq (.ops [mk 2 (.c (.str [110,111,110,101]))]) (.keep (kp [(2,0)] [] 0) .ret)) .skip)) (.trim [0] (sq [mk 3 (.c (.str []))] [0,3] (.seq (sq [mk 4 (ki 0)] [0,3,4] (.block 0 (.keep (kp [(0,0),(3,0),(4,0)] [] 0) g39l1_c))) (.trim [3] (.seq (.ops [mo 47 3,mo 2 47]) (.keep (kp [(2,0)] [] 0) .ret)))))))))),[.t 2]⟩
abbrev g39_S:=Sys.on [(69,g62_r),(73,g50_r),(74,g47_r)] []
@[reducible,simp] def g39p3_F:((List (Int×Int×Bool))×Str×Int)→Out:=(fun t=>(.nrm,[(0,(.vs (rows t.1))),(3,(.str t.2.1)),(4,(.int .i64 t.2.2))],[]))
def spec_PipelineText_p3 (v13:List (Int×Int×Bool)) (v14:Str) (v15:Int) (v16:Int×Int×Bool):Option ((List (Int×Int×Bool))×Str×Int):=if v16.2.2=true then if v14.length+(([63]:Str)).length≤9223372036854775807 then some ((v13,(v14++([63]:Str)),v15)) else none else some ((v13,v14,v15))
@[simp] theorem g39p3_eq (y0 y1 y2 y3 y4 y5):X g39_S g39p3_c [(0,(.vs (rows y0))),(3,(.str y1)),(4,(.int .i64 y2)),(5,(.ptr 0 0 0))] [(.live 3 [[(.int .i64 y3),(.int .i64 y4),(.bool y5)]])]=(spec_PipelineText_p3 y0 y1 y2 ((y3,y4,y5))).map g39p3_F:=by
  simp (maxSteps:=2000000) (maxDischargeDepth:=8) -implicitDefEqProofs [g39p3_c,spec_PipelineText_p3] <;> (try simp only [map_to_bind,some_elim,g39p3_F])
@[reducible,simp] def g39p2_F:((List (Int×Int×Bool))×Str×Int)→Out:=(fun t=>(.nrm,[(0,(.vs (rows t.1))),(3,(.str t.2.1)),(4,(.int .i64 t.2.2))],[]))
def spec_PipelineText_p2 (v6:List (Int×Int×Bool)) (v7:Str) (v8:Int) (v9:Int×Int×Bool):Option ((List (Int×Int×Bool))×Str×Int):=(spec_l19Words).bind fun r10=>if 0≤v9.1∧v9.1 < ((r10.length:Nat):Int) then (r10[(v9.1).toNat]?).bind fun x11=>if v7.length+x11.length≤9223372036854775807 then if v9.2.1 > 0 then (spec_l05Digits v9.2.1).bind fun r12=>if (([40]:Str)).length+r12.length≤9223372036854775807 then if ((([40]:Str)++r12)).length+(([41]:Str)).length≤9223372036854775807 then if ((v7++x11)).length+(((([40]:Str)++r12)++([41]:Str))).length≤9223372036854775807 then (spec_PipelineText_p3 v6 (((v7++x11)++((([40]:Str)++r12)++([41]:Str)))) v8 v9).bind fun r17=>some ((r17.1,r17.2.1,r17.2.2)) else none else none else none else (spec_PipelineText_p3 v6 ((v7++x11)) v8 v9).bind fun r18=>some ((r18.1,r18.2.1,r18.2.2)) else none else none
@[simp] theorem g39p2_eq (y0 y1 y2 y3 y4 y5):X g39_S g39p2_c [(0,(.vs (rows y0))),(3,(.str y1)),(4,(.int .i64 y2)),(5,(.ptr 0 0 0))] [(.live 3 [[(.int .i64 y3),(.int .i64 y4),(.bool y5)]])]=(spec_PipelineText_p2 y0 y1 y2 ((y3,y4,y5))).map g39p2_F:=by
  simp (maxSteps:=2000000) (maxDischargeDepth:=8) -implicitDefEqProofs [g39p2_c,spec_PipelineText_p2] <;> (try simp only [map_to_bind,some_elim,g39p2_F])
@[reducible,simp] def g39l1_F:Str→Out:=(fun t=>(.ext 0,[(3,(.str t))],[]))
def spec_PipelineText_l1_b (v2:List (Int×Int×Bool)) (v3:Str) (v4:Int):Option (((List (Int×Int×Bool))×Str×Int) ⊕ (Str)):=if v4 < (v2.length:Int) then if 0≤v4 then (v2[(v4).toNat]?).bind fun x5=>if v4 > 0 then if v3.length+(([43]:Str)).length≤9223372036854775807 then (spec_PipelineText_p2 v2 ((v3++([43]:Str))) v4 x5).bind fun r19=>some (.inl (r19.1,r19.2.1,(IntKind.i64.wrap (r19.2.2+1)))) else none else (spec_PipelineText_p2 v2 v3 v4 x5).bind fun r20=>some (.inl (r20.1,r20.2.1,(IntKind.i64.wrap (r20.2.2+1)))) else none else some (.inr v3)
theorem g39l1_b_eq  (v2:List (Int×Int×Bool)) (v3:Str) (v4:Int):X g39_S g39l1_cb (keepEnv [0,3,4] [(0,(.vs (rows v2))),(3,(.str v3)),(4,(.int .i64 v4))]) []=(spec_PipelineText_l1_b v2 v3 v4).map (Sum.elim (fun s=>(TX.nrm,[(0,(.vs (rows s.1))),(3,(.str s.2.1)),(4,(.int .i64 s.2.2))],[])) g39l1_F):=by
  simp (maxSteps:=2000000) (maxDischargeDepth:=8) -implicitDefEqProofs [g39l1_cb,spec_PipelineText_l1_b] <;> (try simp only [map_to_bind,some_elim,g39l1_F])
def spec_PipelineText_l1  (s:(List (Int×Int×Bool))×Str×Int):Option (Str):=loopO (fun s=>spec_PipelineText_l1_b  s.1 s.2.1 s.2.2) s
@[simp] theorem g39l1_eq (y0 y1 y2):X g39_S g39l1_c [(0,(.vs (rows y0))),(3,(.str y1)),(4,(.int .i64 y2))] []=(spec_PipelineText_l1  (y0,y1,y2)).map g39l1_F:=by
  exact loop_X _ _ _ _ (by intro r;first | (simp;done) | (rcases r with r | r <;> simp;done) | (rcases r with r | r | r <;> simp;done) | (rcases r with r | r | r | r <;> simp)) (fun s=>g39l1_b_eq   s.1 s.2.1 s.2.2) (y0,y1,y2)
def spec_PipelineText (a_list:List (Int×Int×Bool)):Option (Str):=(spec_l19Ok a_list).bind fun r1=>if ¬(r1=true) then some (([]:Str)) else if (a_list.length:Int)=0 then some (([110,111,110,101]:Str)) else (spec_PipelineText_l1 ((a_list,([]:Str),0))).bind fun r21=>some r21
@[simp] def g39_O:Str→TV×List Blk:=fun r=>((.str r),[])
def g39_E (a:(List (Int×Int×Bool))):List TV:=[(.vs (rows a))]
theorem g39_run (a_list:List (Int×Int×Bool)) :callFn (X g39_S) g39_tf (g39_E a_list) []=(spec_PipelineText a_list).map g39_O:=by
  rw [callFn_eq]
  simp (maxSteps:=2000000) (maxDischargeDepth:=8) -implicitDefEqProofs [g39_tf,spec_PipelineText,g39_E] <;> (try simp only [map_to_bind,some_elim,g39_O])
def g39_r:Rule:=RlO g39_E (fun a=>spec_PipelineText a) g39_O
theorem g39_ok:RuleOk Tryd.prog 36 g39_r:=ok_rlo (S:=g39_S) (tf:=g39_tf) (SysOk.on ⟨g62_ok,g50_ok,g47_ok,trivial⟩ trivial) (trE_ok (ks:=[[0,3,4],[6]]) Tryd.func36 (by kernel_rfl)) fun a=>g39_run a
@[simp] theorem g39_app (y0):g39_r [(.vs (rows y0))]=(spec_PipelineText y0).map g39_O :=
  RlO_app (enc:=g39_E) (by intro a b h;simp [g39_E,Prod.ext_iff] at h ⊢;simp [h]) y0
/-! (*spec.l00Src).text -/
def g24_tf:TFn:=⟨(sq [mk 4 (.c (.str []))] [0,1] (.seq (.ops [mo 5 1,mo 6 0,mo 7 1,le 8 7,oo 9 (.callM 37 0 [0] [.t 6,.t 8]),ia 10 1 5 9,ld 11 10,mo 4 11]) (.keep (kp [(4,0)] [(0,0),(1,0)] 2) .ret))),[.t 4]⟩
abbrev g24_S:=Sys.on [] [((37,0),(1,g22_r))]
def spec_l00Src_text_o62 (a1:List Bt) (a2:Int) (a3:Int) (a4:List Str):Option (List Bt×Int×Int×List Str×Str):=(spec_l00Src_pick_o30 a1 a2 a3 (((a4.length:Nat):Int))).bind fun r1=>if 0≤r1.2.2.2∧r1.2.2.2 < ((a4.length:Nat):Int) then (a4[(r1.2.2.2).toNat]?).bind fun x2=>some (r1.1,r1.2.1,r1.2.2.1,a4,x2) else none
@[simp] def g24_O:(List Bt×Int×Int×List Str×Str)→TV×List Blk:=fun r=>((.str r.2.2.2.2),[(.live 3 [[(.vs (rows r.1)),(.int .i64 r.2.1),(.int .u64 r.2.2.1)]]),(.live 1 (rows r.2.2.2.1))])
abbrev g24_T:=List Bt×Int×Int×List Str
def g24_E (a:g24_T):List TV:=[(.ptr 0 0 0),(.hs 1 0 a.2.2.2.length true)]
def g24_B (a:g24_T):List Blk:=[(.live 3 [[(.vs (rows a.1)),(.int .i64 a.2.1),(.int .u64 a.2.2.1)]]),(.live 1 (rows a.2.2.2))]
theorem g24_run (a1:List Bt) (a2:Int) (a3:Int) (a4:List Str) :callFn (X g24_S) g24_tf (g24_E (a1,a2,a3,a4)) (g24_B (a1,a2,a3,a4))=(spec_l00Src_text_o62 a1 a2 a3 a4).map g24_O:=by
  rw [callFn_eq]
  simp (maxSteps:=2000000) (maxDischargeDepth:=8) -implicitDefEqProofs [g24_tf,spec_l00Src_text_o62,g24_E,g24_B] <;> (try simp only [map_to_bind,some_elim,g24_O])
def g24_r:MRule:=RmO g24_E g24_B (fun a=>(spec_l00Src_text_o62 a.1 a.2.1 a.2.2.1 a.2.2.2).bind fun r=>if r.2.2.2.1.length=a.2.2.2.length then some (r.1,r.2.1,r.2.2.1,(fixLen a.2.2.2 r.2.2.2.1),r.2.2.2.2) else none) g24_O
theorem g24_ok0:MRuleOk Tryd.prog 38 2 (RmO g24_E g24_B (fun a=>spec_l00Src_text_o62 a.1 a.2.1 a.2.2.1 a.2.2.2) g24_O):=ok_rmo (S:=g24_S) (tf:=g24_tf) (SysOk.on trivial ⟨g22_ok,trivial⟩) (trE_ok (ks:=[]) Tryd.func38 (by kernel_rfl)) (by rfl) (fun _=>by simp [g24_B]) (fun _=>by simp) fun a=>g24_run a.1 a.2.1 a.2.2.1 a.2.2.2
theorem g24_ok:MRuleOk Tryd.prog 38 2 g24_r:=g24_ok0.weak fun a r hr=>by
  simp only [Option.bind_eq_some_iff] at hr
  obtain ⟨x,h1,h2⟩:=hr
  split at h2
  · rename_i hc
    simp only [Option.some.injEq] at h2
    rw [h1,← h2]
    simp [fixLen,hc]
  · cases h2
@[simp] theorem g24_app (y0 y1 y2)(y3:List Str){n1:Nat}(h1:n1=y3.length):g24_r [(.ptr 0 0 0),(.hs 1 0 n1 true)] [(.live 3 [[(.vs (rows y0)),(.int .i64 y1),(.int .u64 y2)]]),(.live 1 (rows y3))]=((spec_l00Src_text_o62 y0 y1 y2 y3).bind fun r=>if r.2.2.2.1.length=y3.length then some (r.1,r.2.1,r.2.2.1,(fixLen y3 r.2.2.2.1),r.2.2.2.2) else none).map g24_O:=by
  subst h1
  exact RmO_app (enc:=g24_E) (encB:=g24_B) (by intro a b h h2;simp [g24_E,g24_B,Prod.ext_iff] at h h2 ⊢;simp [h,h2]) (y0,y1,y2,y3)
/-! spec.DrawReadPipeline -/
def g20_tf:TFn:=⟨(sq [mk 2 (.c (.str []))] [0] (sq [mo 6 0,ca 7 23 [.t 6],mo 3 7] [3] (sq [mo 8 3,oo 9 (.callM 24 0 [0] [.t 8]),ca 10 36 [.t 9],mo 4 10] [3,4] (.seq (sq [mo 11 3,oo 12 (.callM 37 0 [0] [.t 11,ki 6])] [3,4,12] (.block 0 (sq [bn 14 .eql (.t 12) (ki 0),mo 13 14] [3,4,12,13] (.cond (.t 13) (sq [mo 15 3,mo 16 4,oo 17 (.len true (.t 16)),oo 18 (.callM 37 0 [0] [.t 15,.t 17]),mo 5 18] [3,4,5] (.after (.drawF [(none,mo 19 4),(none,mo 20 5),(none,oo 21 (.sliceS (.t 19) none (some (.t 20)))),(none,mo 22 3),(none,mo 26 4),(none,mo 27 5),(none,oo 28 (.sliceS (.t 26) (some (.t 27)) none)),(some [19,20,21,22,26,27,28],oo 23 (.bslice [(.str [])] 7 [(0,(.c (.str [63]))),(1,(.c (.str [43]))),(2,(.c (.str [40]))),(3,(.c (.str [41]))),(4,(.c (.str [49]))),(5,(.c (.str [32]))),(6,(.c (.str [108,122])))])),(some [19,20,21,26,27,28],oo 24 (.callM 38 0 [0,2] [.t 22,.t 23])),(none,oo 25 (.bin .str .add (.t 21) (.t 24)))] [oo 29 (.bin .str .add (.t 25) (.t 28)),mo 4 29]) (kp [(4,0)] [] 0))) (sq [bn 31 .eql (.t 12) (ki 1),mo 30 31] [3,4,30] (.cond (.t 30) (.after (.ops [mo 32 3,oo 33 (.bslice [(.str [])] 11 [(0,(.c (.str []))),(1,(.c (.str [110,111,110,101]))),(2,(.c (.str [110,111,110,101,43,108,122]))),(3,(.c (.str [115,104,117,102,102,108,101]))),(4,(.c (.str [115,104,117,102,102,108,101,40,48,41]))),(5,(.c (.str [100,101,108,116,97,40,51,41]))),(6,(.c (.str [115,117,109,63]))),(7,(.c (.str [114,117,110,43,114,117,110,43,114,117,110,43,114,117,110,43,114,117,110]))),(8,(.c (.str [108,122,40,49,41]))),(9,(.c (.str [115,104,117,102,102,108,101,40,48,52,41]))),(10,(.c (.str [76,122])))]),oo 34 (.callM 38 0 [0,2] [.t 32,.t 33]),mo 4 34]) (kp [(4,0)] [] 0)) (.keep (kp [(4,0)] [] 0) .skip))))))) (.trim [4] (.seq (.ops [mo 35 4,mo 2 35]) (.keep (kp [(2,0)] [] 0) .ret))))))),[.t 2]⟩
abbrev g20_S:=Sys.on [(23,g51_r),(36,g39_r)] [((24,0),(1,g41_r)),((37,0),(1,g22_r)),((38,0),(2,g24_r))]
def spec_DrawReadPipeline (a_code:List Bt):Option (Str):=(spec_l00From a_code).bind fun r1=>(spec_l19Draw_o9d r1.1 r1.2.1 r1.2.2).bind fun r2=>(spec_PipelineText r2.2.2.2).bind fun r3=>(spec_l00Src_pick_o30 r2.1 r2.2.1 r2.2.2.1 6).bind fun r4=>if r4.2.2.2=0 then (spec_l00Src_pick_o30 r4.1 r4.2.1 r4.2.2.1 ((r3.length:Int))).bind fun r5=>(subL r3 none (some r5.2.2.2)).bind fun s6=>(subL r3 (some r5.2.2.2) none).bind fun s7=>if subL r3 none (some r5.2.2.2)=some s6∧subL r3 (some r5.2.2.2) none=some s7 then (spec_l00Src_text_o62 r5.1 r5.2.1 r5.2.2.1 ((lit [([63]:Str),([43]:Str),([40]:Str),([41]:Str),([49]:Str),([32]:Str),([108,122]:Str)]:List Str))).bind fun r8=>if r8.2.2.2.1.length=((lit [([63]:Str),([43]:Str),([40]:Str),([41]:Str),([49]:Str),([32]:Str),([108,122]:Str)]:List Str)).length then if subL r3 none (some r5.2.2.2)=some s6∧subL r3 (some r5.2.2.2) none=some s7 then if s6.length+r8.2.2.2.2.length≤9223372036854775807 then if ((s6++r8.2.2.2.2)).length+s7.length≤9223372036854775807 then some (((s6++r8.2.2.2.2)++s7)) else none else none else none else none else none else if r4.2.2.2=1 then (spec_l00Src_text_o62 r4.1 r4.2.1 r4.2.2.1 ((lit [([]:Str),([110,111,110,101]:Str),([110,111,110,101,43,108,122]:Str),([115,104,117,102,102,108,101]:Str),([115,104,117,102,102,108,101,40,48,41]:Str),([100,101,108,116,97,40,51,41]:Str),([115,117,109,63]:Str),([114,117,110,43,114,117,110,43,114,117,110,43,114,117,110,43,114,117,110]:Str),([108,122,40,49,41]:Str),([115,104,117,102,102,108,101,40,48,52,41]:Str),([76,122]:Str)]:List Str))).bind fun r9=>if r9.2.2.2.1.length=((lit [([]:Str),([110,111,110,101]:Str),([110,111,110,101,43,108,122]:Str),([115,104,117,102,102,108,101]:Str),([115,104,117,102,102,108,101,40,48,41]:Str),([100,101,108,116,97,40,51,41]:Str),([115,117,109,63]:Str),([114,117,110,43,114,117,110,43,114,117,110,43,114,117,110,43,114,117,110]:Str),([108,122,40,49,41]:Str),([115,104,117,102,102,108,101,40,48,52,41]:Str),([76,122]:Str)]:List Str)).length then some r9.2.2.2.2 else none else some r3
@[simp] def g20_O:Str→TV×List Blk:=fun r=>((.str r),[])
def g20_E (a:List Bt):List TV:=[(.vs (rows a))]
theorem g20_run (a_code:List Bt) :callFn (X g20_S) g20_tf (g20_E a_code) []=(spec_DrawReadPipeline a_code).map g20_O:=by
  rw [callFn_eq]
  simp (maxSteps:=2000000) (maxDischargeDepth:=8) -implicitDefEqProofs [g20_tf,spec_DrawReadPipeline,g20_E,bslV_lit (α:=Str) (zs:=[(.str [])])] <;> (try simp only [map_to_bind,some_elim,g20_O])
def g20_r:Rule:=RlO g20_E (fun a=>spec_DrawReadPipeline a) g20_O
theorem g20_ok:RuleOk Tryd.prog 13 g20_r:=ok_rlo (S:=g20_S) (tf:=g20_tf) (SysOk.on ⟨g51_ok,g39_ok,trivial⟩ ⟨g41_ok,g22_ok,g24_ok,trivial⟩) (trE_ok (ks:=[[10,2000000,12,0,1,2,3,7,8,9,4,5,6,10,11,0,0,0,0,0,0,0,8,19,20,21,22,26,27,28,7,19,20,21,26,27,28,0]]) Tryd.func13 (by kernel_rfl)) fun a=>g20_run a
@[simp] theorem g20_app (y0):g20_r [(.vs (rows y0))]=(spec_DrawReadPipeline y0).map g20_O :=
  RlO_app (enc:=g20_E) (by intro a b h;simp [g20_E,Prod.ext_iff] at h ⊢;simp [h]) y0
/-! laws.FnPipelineText -/
def g30_tf:TFn:=⟨(sq [mk 4 (kb false)] [0,1] (.seq (sq [mo 16 0,le 17 16,bn 18 .gtr (.t 17) (ki 1048576),mo 19 18,⟨(some 20),(some (19,false)),(.mv (.t 1))⟩,⟨(some 21),(some (19,false)),(.len false (.t 20))⟩,⟨(some 22),(some (19,false)),(.bin .num .gtr (.t 21) (ki 1048576))⟩,pk 23 (.t 19) (kb true) (.t 22)] [0,1,23] (.cond (.t 23) (.seq (.ops [mk 4 (kb true)]) (.keep (kp [(4,0)] [] 0) .ret)) .skip)) (.trim [0,1] (sq [mo 24 0,ca 25 5 [.t 24],mo 5 25] [1,5] (sq [mo 27 5,ca 28 7 [.t 27],ca 29 6 [.t 28],mo 26 29,oo 30 (.ext (.t 26) 0),oo 31 (.ext (.t 26) 1),mo 6 30,mo 7 31] [1,5,6,7] (sq [mo 33 5,ca 34 9 [.t 33],ca 35 8 [.t 34],mo 32 35,oo 36 (.ext (.t 32) 0),oo 37 (.ext (.t 32) 1),mo 8 36,mo 9 37] [1,5,6,7,8,9] (.seq (sq [mo 38 7,nt 39 38,mo 40 39,⟨(some 41),(some (40,false)),(.mv (.t 9))⟩,⟨(some 42),(some (40,false)),(.un .not (.t 41))⟩,pk 43 (.t 40) (kb true) (.t 42),mo 44 43,⟨(some 45),(some (44,false)),(.mv (.t 6))⟩,⟨(some 46),(some (44,false)),(.mv (.t 5))⟩,⟨(some 47),(some (44,false)),(.call 10 [.t 45,.t 46])⟩,⟨(some 48),(some (44,false)),(.un .not (.t 47))⟩,pk 49 (.t 44) (kb true) (.t 48),mo 50 49,⟨(some 51),(some (50,false)),(.mv (.t 8))⟩,⟨(some 52),(some (50,false)),(.mv (.t 5))⟩,⟨(some 53),(some (50,false)),(.call 10 [.t 51,.t 52])⟩,⟨(some 54),(some (50,false)),(.un .not (.t 53))⟩,pk 55 (.t 50) (kb true) (.t 54),mo 56 55,⟨(some 57),(some (56,false)),(.mv (.t 5))⟩,⟨(some 58),(some (56,false)),(.call 11 [.t 57])⟩,⟨(some 59),(some (56,false)),(.un .not (.t 58))⟩,pk 60 (.t 56) (kb true) (.t 59)] [1,60] (.cond (.t 60) (.seq (.ops [mk 4 (kb false)]) (.keep (kp [(4,0)] [] 0) .ret)) .skip)) (.trim [1] (sq [mo 61 1,ca 62 12 [.t 61],mo 10 62] [1,10] (sq [mo 64 10,ca 65 6 [.t 64],mo 63 65,oo 66 (.ext (.t 63) 0),oo 67 (.ext (.t 63) 1),mo 11 66,mo 12 67] [1,10,11,12] (sq [mo 68 1,ca 69 13 [.t 68],mo 13 69] [10,11,12,13] (sq [mo 71 13,ca 72 8 [.t 71],mo 70 72,oo 73 (.ext (.t 70) 0),oo 74 (.ext (.t 70) 1),mo 14 73,mo 15 74] [10,11,12,13,14,15] (.seq (.after (.ops [mo 75 12,nt 76 75,mo 77 76,⟨(some 78),(some (77,false)),(.mv (.t 11))⟩,⟨(some 79),(some (77,false)),(.call 7 [.t 78])⟩,⟨(some 80),(some (77,false)),(.mv (.t 10))⟩,⟨(some 81),(some (77,false)),(.bin .str .eql (.t 79) (.t 80))⟩,pk 82 (.t 77) (kb true) (.t 81),mo 83 82,⟨(some 84),(some (83,true)),(.mv (.t 15))⟩,⟨(some 85),(some (83,true)),(.un .not (.t 84))⟩,⟨(some 86),(some (83,true)),(.mv (.t 85))⟩,⟨(some 87),(some (86,false)),(.mv (.t 14))⟩,⟨(some 88),(some (86,false)),(.call 9 [.t 87])⟩,⟨(some 89),(some (86,false)),(.mv (.t 13))⟩,⟨(some 90),(some (86,false)),(.bin .str .eql (.t 88) (.t 89))⟩,⟨(some 91),(some (83,true)),(.pick (.t 86) (kb true) (.t 90))⟩,pk 92 (.t 83) (.t 91) (kb false),mo 4 92]) (kp [(4,0)] [] 0)) (.keep (kp [(4,0)] [] 0) .ret)))))))))))))),[.t 4]⟩
abbrev g30_S:=Sys.on [(5,g45_r),(7,g27_r),(6,g28_r),(9,g35_r),(8,g37_r),(10,g38_r),(11,g31_r),(12,g11_r),(13,g20_r)] []
def laws_FnPipelineText (a_code:List Bt) (a_more:List Bt):Option (Bool):=if (a_code.length:Int) > 1048576 then some true else if (a_more.length:Int) > 1048576 then some true else (spec_E8Pipeline a_code).bind fun r1=>(impl_EncodePipeline r1).bind fun r2=>(impl_DecodePipeline r2).bind fun r3=>(impl_PipelineText r1).bind fun r4=>(impl_ReadPipeline r4).bind fun r5=>if ¬(r3.2=true) then some false else if ¬(r5.2=true) then some false else (impl_SamePipeline r3.1 r1).bind fun r6=>if ¬(r6=true) then some false else (impl_SamePipeline r5.1 r1).bind fun r7=>if ¬(r7=true) then some false else (impl_ValidPipeline r1).bind fun r8=>if ¬(r8=true) then some false else (spec_DrawDecodePipeline a_more).bind fun r9=>(impl_DecodePipeline r9).bind fun r10=>(spec_DrawReadPipeline a_more).bind fun r11=>(impl_ReadPipeline r11).bind fun r12=>if ¬(r10.2=true) then if ¬(r12.2=true) then some true else (impl_PipelineText r12.1).bind fun r13=>some ((decide (r13=r11))) else (impl_EncodePipeline r10.1).bind fun r14=>if r14=r9 then if ¬(r12.2=true) then some true else (impl_PipelineText r12.1).bind fun r15=>some ((decide (r15=r11))) else some false
@[simp] def g30_O:Bool→TV×List Blk:=fun r=>((.bool r),[])
def g30_E (a:List Bt×List Bt):List TV:=[(.vs (rows a.1)),(.vs (rows a.2))]
theorem g30_run (a_code:List Bt) (a_more:List Bt) :callFn (X g30_S) g30_tf (g30_E (a_code,a_more)) []=(laws_FnPipelineText a_code a_more).map g30_O:=by
  rw [callFn_eq]
  simp (maxSteps:=2000000) (maxDischargeDepth:=8) -implicitDefEqProofs [g30_tf,laws_FnPipelineText,g30_E] <;> (try simp only [map_to_bind,some_elim,g30_O])
def laws_FnPipelineText_r:Rule:=RlO g30_E (fun a=>laws_FnPipelineText a.1 a.2) g30_O
theorem laws_FnPipelineText_ok:RuleOk Tryd.prog 3 laws_FnPipelineText_r:=ok_rlo (S:=g30_S) (tf:=g30_tf) (SysOk.on ⟨g45_ok,g27_ok,g28_ok,g35_ok,g37_ok,g38_ok,g31_ok,g11_ok,g20_ok,trivial⟩ trivial) (trE_ok (ks:=[]) Tryd.func3 (by kernel_rfl)) fun a=>g30_run a.1 a.2
@[simp] theorem laws_FnPipelineText_app (y0 y1):laws_FnPipelineText_r [(.vs (rows y0)),(.vs (rows y1))]=(laws_FnPipelineText y0 y1).map g30_O :=
  RlO_app (enc:=g30_E) (by intro a b h;simp [g30_E,Prod.ext_iff] at h ⊢;simp [h]) (y0,y1)
end
end Go.Proofs.TM
