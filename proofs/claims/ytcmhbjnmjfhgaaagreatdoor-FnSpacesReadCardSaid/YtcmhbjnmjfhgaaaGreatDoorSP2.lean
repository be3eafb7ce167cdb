/- Functions of the program, as functions of their data: written by program. -/
import Derived.Test.YtcmhbjnmjfhgaaaGreatDoorSP1
namespace Go.Proofs.TM
open Go Go.Proofs
set_option linter.unusedVariables false
set_option linter.unusedSimpArgs false
set_option maxHeartbeats 1000000
attribute [-simp] Option.map_bind strV_some
attribute [simp] guardOn_bool sA_bslice Function.comp_def
noncomputable section
/-! (*impl.scanner).while -/
def g11l1_cb:TC:=(.seq (sq [mo 7 5,mo 8 0,nk 9 8,fa 10 0 9,ld 11 10,oo 12 (.len true (.t 11)),bn 13 .lss (.t 7) (.t 12),mo 14 13,⟨(some 15),(some (14,true)),(.mv (.t 1))⟩,⟨(some 16),(some (14,true)),(.mv (.t 0))⟩,⟨(some 17),(some (14,true)),(.nilchk (.t 16))⟩,⟨(some 18),(some (14,true)),(.faddr 0 (.t 17))⟩,⟨(some 19),(some (14,true)),(.load none (.t 18))⟩,⟨(some 20),(some (14,true)),(.mv (.t 5))⟩,⟨(some 21),(some (14,true)),(.index (.t 19) (.t 20))⟩,⟨(some 22),(some (14,true)),(.callv (.t 15) [.t 21])⟩,pk 23 (.t 14) (.t 22) (kb false)] [0,1,5,23] (.cond (.t 23) .skip (.keep (kp [(0,0),(5,0)] [(0,0)] 1) (.exit 0)))) (.trim [0,1,5] (.block 1 (.after (.ops [mo 24 5,bn 25 .add (.t 24) (ki 1),mo 5 25]) (kp [(0,0),(1,0),(5,0)] [(0,0)] 1)))))
def g11l1_c:TC:=.loop [0,1,5] g11l1_cb
def g11_tf:TFn:=⟨(sq [mk 4 (.c (.str []))] [0,1] (sq [mk 5 (ki 0)] [0,1,5] (.seq (.block 0 (.keep (kp [(0,0),(1,0),(5,0)] [(0,0)] 1) g11l1_c)) (.trim [0,5] (sq [mo 26 0,nk 27 26,fa 28 0 27,ld 29 28,mo 30 5,oo 31 (.sliceS (.t 29) none (some (.t 30))),mo 6 31] [0,5,6] (sq [mo 32 0,mo 33 0,nk 34 33,fa 35 0 34,ld 36 35,mo 37 5,oo 38 (.sliceS (.t 36) (some (.t 37)) none),nk 39 32,fa 40 0 39,⟨none,none,(.store 1 (.t 40) (.t 38))⟩] [6] (.seq (.ops [mo 41 6,mo 4 41]) (.keep (kp [(4,0)] [(0,0)] 1) .ret)))))))),[.t 4]⟩
abbrev g11_S:=Sys.on [(130,g10_r)] []
@[reducible,simp] def g11l1_F:((Str×Bool)×Int)→Out:=(fun t=>(.ext 0,[(0,(.ptr 0 0 0)),(5,(.int .i64 t.2))],[(.live 2 [[(.str t.1.1),(.bool t.1.2)]])]))
def impl_scanner_while_o53_l1_b (v1:Str×Bool) (v2:Int):Option ((Int) ⊕ ((Str×Bool)×Int)):=if v2 < (v1.1.length:Int) then if 0≤v2 then (v1.1[(v2).toNat]?).bind fun (b3:UInt8)=>(impl_scanner_number_c1 ((b3.toNat:Int))).bind fun r4=>if r4=true then some (.inl ((IntKind.i64.wrap (v2+1)))) else some (.inr (v1,v2)) else none else some (.inr (v1,v2))
theorem g11l1_b_eq  (v1:Str×Bool) (v2:Int):X g11_S g11l1_cb (keepEnv [0,1,5] [(0,(.ptr 0 0 0)),(1,(.fn 130 [] [])),(5,(.int .i64 v2))]) [(.live 2 [[(.str v1.1),(.bool v1.2)]])]=(impl_scanner_while_o53_l1_b v1 v2).map (Sum.elim (fun s=>(TX.nrm,[(0,(.ptr 0 0 0)),(1,(.fn 130 [] [])),(5,(.int .i64 s))],[(.live 2 [[(.str v1.1),(.bool v1.2)]])])) g11l1_F):=by
  simp (maxSteps:=2000000) (maxDischargeDepth:=8) -implicitDefEqProofs [g11l1_cb,impl_scanner_while_o53_l1_b] <;> (try simp only [map_to_bind,some_elim,g11l1_F])
def impl_scanner_while_o53_l1 (v1:Str×Bool) (s:Int):Option ((Str×Bool)×Int):=loopO (fun s=>impl_scanner_while_o53_l1_b v1 s) s
@[simp] theorem g11l1_eq (y0 y1 y2):X g11_S g11l1_c [(0,(.ptr 0 0 0)),(1,(.fn 130 [] [])),(5,(.int .i64 y2))] [(.live 2 [[(.str y0),(.bool y1)]])]=(impl_scanner_while_o53_l1 ((y0,y1)) y2).map g11l1_F:=by
  exact loop_X _ _ _ _ (by intro r;first | (simp;done) | (rcases r with r | r <;> simp;done) | (rcases r with r | r | r <;> simp;done) | (rcases r with r | r | r | r <;> simp)) (fun s=>g11l1_b_eq  ((y0,y1)) s) y2
def impl_scanner_while_o53 (a1:Str×Bool):Option ((Str×Bool)×Str):=(impl_scanner_while_o53_l1 a1 0).bind fun r5=>(subL r5.1.1 none (some r5.2)).bind fun s6=>(subL r5.1.1 (some r5.2) none).bind fun s7=>some ((s7,r5.1.2),s6)
@[simp] def g11_O:((Str×Bool)×Str)→TV×List Blk:=fun r=>((.str r.2),[(.live 2 [[(.str r.1.1),(.bool r.1.2)]])])
abbrev g11_T:=(Str×Bool)
def g11_E (a:g11_T):List TV:=[(.ptr 0 0 0),(.fn 130 [] [])]
def g11_B (a:g11_T):List Blk:=[(.live 2 [[(.str a.1),(.bool a.2)]])]
theorem g11_run (a1:Str×Bool) :callFn (X g11_S) g11_tf (g11_E a1) (g11_B a1)=(impl_scanner_while_o53 a1).map g11_O:=by
  rw [callFn_eq]
  simp (maxSteps:=2000000) (maxDischargeDepth:=8) -implicitDefEqProofs [g11_tf,impl_scanner_while_o53,g11_E,g11_B] <;> (try simp only [map_to_bind,some_elim,g11_O])
def g11_r:MRule:=RmO g11_E g11_B (fun a=>impl_scanner_while_o53 a) g11_O
theorem g11_ok:MRuleOk Tryz.prog 129 1 g11_r:=ok_rmo (S:=g11_S) (tf:=g11_tf) (SysOk.on ⟨g10_ok,trivial⟩ trivial) (trE_ok (ks:=[[0,1,5]]) Tryz.func129 (by kernel_rfl)) (by rfl) (fun _=>by simp [g11_B]) (fun _=>by simp) fun a=>g11_run a
@[simp] theorem g11_app (y0 y1):g11_r [(.ptr 0 0 0),(.fn 130 [] [])] [(.live 2 [[(.str y0),(.bool y1)]])]=(impl_scanner_while_o53 ((y0,y1))).map g11_O:=by
  exact RmO_app (enc:=g11_E) (encB:=g11_B) (by intro a b h h2;simp [g11_E,g11_B,Prod.ext_iff] at h h2 ⊢;simp [h,h2]) ((y0,y1))
/-! impl.readDecimal -/
noncomputable def impl_readDecimal (s:Str):Option (Int×Bool):=rdecS s
noncomputable def impl_readDecimal_r:Rule:=rdec_r
@[simp] theorem impl_readDecimal_app (y0):impl_readDecimal_r [.str y0]=(impl_readDecimal y0).map (fun r=>(.tup [.int .i64 r.1,.bool r.2],[])):=rdecS_app y0
/-! (*impl.scanner).number -/
def g8_tf:TFn:=⟨(sq [mk 2 (ki 0)] [0] (sq [mo 6 0,oo 7 (.callM 129 0 [0] [.t 6,(.c (.fn 130 [] []))]),ca 8 128 [.t 7],mo 5 8,oo 9 (.ext (.t 5) 0),oo 10 (.ext (.t 5) 1),mo 3 9,mo 4 10] [0,3,4] (.seq (sq [mo 11 4,nt 12 11] [0,3,12] (.cond (.t 12) (.after (.ops [mo 13 0,nk 14 13,fa 15 1 14,⟨none,none,(.store 1 (.t 15) (kb true))⟩]) (kp [(3,0)] [(0,0)] 1)) (.keep (kp [(3,0)] [(0,0)] 1) .skip))) (.trim [3] (.seq (.ops [mo 16 3,mo 2 16]) (.keep (kp [(2,0)] [(0,0)] 1) .ret)))))),[.t 2]⟩
abbrev g8_S:=Sys.on [(128,impl_readDecimal_r)] [((129,0),(1,g11_r))]
def impl_scanner_number_od0 (a1:Str×Bool):Option ((Str×Bool)×Int):=(impl_scanner_while_o53 a1).bind fun r1=>(impl_readDecimal r1.2).bind fun r2=>if ¬(r2.2=true) then some ((r1.1.1,true),r2.1) else some (r1.1,r2.1)
@[simp] def g8_O:((Str×Bool)×Int)→TV×List Blk:=fun r=>((.int .i64 r.2),[(.live 2 [[(.str r.1.1),(.bool r.1.2)]])])
abbrev g8_T:=(Str×Bool)
def g8_E (a:g8_T):List TV:=[(.ptr 0 0 0)]
def g8_B (a:g8_T):List Blk:=[(.live 2 [[(.str a.1),(.bool a.2)]])]
theorem g8_run (a1:Str×Bool) :callFn (X g8_S) g8_tf (g8_E a1) (g8_B a1)=(impl_scanner_number_od0 a1).map g8_O:=by
  rw [callFn_eq]
  simp (maxSteps:=2000000) (maxDischargeDepth:=8) -implicitDefEqProofs [g8_tf,impl_scanner_number_od0,g8_E,g8_B] <;> (try simp only [map_to_bind,some_elim,g8_O])
def g8_r:MRule:=RmO g8_E g8_B (fun a=>impl_scanner_number_od0 a) g8_O
theorem g8_ok:MRuleOk Tryz.prog 85 1 g8_r:=ok_rmo (S:=g8_S) (tf:=g8_tf) (SysOk.on ⟨impl_readDecimal_ok,trivial⟩ ⟨g11_ok,trivial⟩) (trE_ok (ks:=[]) Tryz.func85 (by kernel_rfl)) (by rfl) (fun _=>by simp [g8_B]) (fun _=>by simp) fun a=>g8_run a
@[simp] theorem g8_app (y0 y1):g8_r [(.ptr 0 0 0)] [(.live 2 [[(.str y0),(.bool y1)]])]=(impl_scanner_number_od0 ((y0,y1))).map g8_O:=by
  exact RmO_app (enc:=g8_E) (encB:=g8_B) (by intro a b h h2;simp [g8_E,g8_B,Prod.ext_iff] at h h2 ⊢;simp [h,h2]) ((y0,y1))
/-! (*impl.scanner).space -/
def g12p2_c:TC:=(sq [fa 35 0 3,ld 36 35,mo 37 4,oo 38 (.bslice [(.int .i64 0)] 1 [(0,(.t 37))]),oo 39 (.append 2 1 8 (.t 36) (.t 38)),fa 40 0 3,⟨none,none,(.store 1 (.t 40) (.t 39))⟩] [0,2,3,5] (.after (.ops [fa 41 1 3,ld 42 41,mo 43 5,oo 44 (.bslice [(.int .i64 0)] 1 [(0,(.t 43))]),oo 45 (.append 2 1 8 (.t 42) (.t 44)),fa 46 1 3,⟨none,none,(.store 1 (.t 46) (.t 45))⟩]) (kp [(0,0),(2,0),(3,0)] [(0,0),(1,2),(2,2),(6,1),(8,1)] 1)))
def g12p3_c:TC:=(sq [mo 24 0,oo 25 (.callM 85 0 [0] [.t 24]),mo 4 25] [0,2,3,4] (sq [mo 26 4,mo 5 26] [0,2,3,4,5] (.seq (.block 2 (sq [mo 28 0,oo 29 (.callM 84 0 [0] [.t 28,(.c (.str [47,42]))]),mo 27 29] [0,2,3,4,5,27] (.cond (.t 27) (.after (.ops [mk 5 (ki (-1))]) (kp [(0,0),(2,0),(3,0),(4,0),(5,0)] [(0,0),(1,2),(2,2),(3,1),(4,1)] 1)) (sq [mo 31 0,oo 32 (.callM 84 0 [0] [.t 31,(.c (.str [47]))]),mo 30 32] [0,2,3,4,5,30] (.cond (.t 30) (.after (.ops [mo 33 0,oo 34 (.callM 85 0 [0] [.t 33]),mo 5 34]) (kp [(0,0),(2,0),(3,0),(4,0),(5,0)] [(0,0),(1,2),(2,2),(3,1),(4,1)] 1)) (.keep (kp [(0,0),(2,0),(3,0),(4,0),(5,0)] [(0,0),(1,2),(2,2),(3,1),(4,1)] 1) .skip)))))) (.trim [0,2,3,4,5] g12p2_c))))
def g12l1_cb:TC:=(.seq (sq [mo 8 0,nk 9 8,fa 10 1 9,ld 11 10,nt 12 11,mo 13 12,⟨(some 14),(some (13,true)),(.mv (.t 0))⟩,⟨(some 15),(some (13,true)),(.callM 84 0 [0] [.t 14,(.c (.str [41]))])⟩,⟨(some 16),(some (13,true)),(.un .not (.t 15))⟩,pk 17 (.t 13) (.t 16) (kb false)] [0,2,3,17] (.cond (.t 17) .skip (.keep (kp [(2,0),(3,0)] [(0,0),(1,2),(2,2),(3,1),(4,1)] 1) (.exit 0)))) (.trim [0,2,3] (.block 1 (.seq (sq [fa 18 0 3,ld 19 18,le 20 19,bn 21 .gtr (.t 20) (ki 0)] [0,2,3,21] (.cond (.t 21) (.after (.ops [mo 22 0,oo 23 (.callM 83 0 [0] [.t 22,(.c (.str [44]))])]) (kp [(0,0),(2,0),(3,0)] [(0,0),(1,2),(2,2),(3,1),(4,1)] 1)) (.keep (kp [(0,0),(2,0),(3,0)] [(0,0),(1,2),(2,2),(3,1),(4,1)] 1) .skip))) (.trim [0,2,3] g12p3_c)))))
def g12l1_c:TC:=.loop [0,2,3] g12l1_cb
def g12_tf:TFn:=⟨(sq [oo 2 (.alloc [.nils,.nils])] [0,2] (sq [oo 3 (.alloc [.nils,.nils])] [0,2,3] (sq [mo 6 0,oo 7 (.callM 83 0 [0] [.t 6,(.c (.str [40]))])] [0,2,3] (.seq (.block 0 (.keep (kp [(0,0),(2,0),(3,0)] [(0,0),(1,2),(2,2),(1000,1),(1001,1)] 1) g12l1_c)) (.trim [2,3] (.seq (.ops [ln 47 2 3,⟨none,none,(.store 2 (.t 2) (.t 47))⟩]) (.keep (kp [(2,0)] [(0,0),(1,2),(3,1),(4,1)] 1) .ret))))))),[.cell 2 (some 2)]⟩
abbrev g12_S:=Sys.on [] [((83,0),(1,g7_r)),((84,0),(1,g6_r)),((85,0),(1,g8_r))]
@[reducible,simp] def g12p2_F:((Str×Bool)×(List Int×List Int))→Out:=(fun t=>(.nrm,[(0,(.ptr 0 0 0)),(2,(.ptr 1 0 0)),(3,(.ptr 2 0 0))],[(.live 2 [[(.str t.1.1),(.bool t.1.2)]]),(.live 2 [[.es,.es]]),(.live 2 [[(ow 3 t.2.1.length),(ow 4 t.2.2.length)]]),(ob 1 t.2.1),(ob 1 t.2.2)]))
def impl_scanner_space_od0_p2 (v12:Str×Bool) (v13:List Int×List Int) (v14:Int) (v15:Int):Option ((Str×Bool)×(List Int×List Int)):=(appL 8 v13.1 ((lit [v14]:List Int))).bind fun l16=>(appL 8 v13.2 ((lit [v15]:List Int))).bind fun l17=>some ((v12,(l16,l17)))
@[simp] theorem g12p2_eq (y0 y1)(y2:List Int)(y3:List Int)(y4 y5){n1:Nat}(h1:n1=y2.length){n2:Nat}(h2:n2=y3.length):X g12_S g12p2_c [(0,(.ptr 0 0 0)),(2,(.ptr 1 0 0)),(3,(.ptr 2 0 0)),(4,(.int .i64 y4)),(5,(.int .i64 y5))] [(.live 2 [[(.str y0),(.bool y1)]]),(.live 2 [[.es,.es]]),(.live 2 [[(ow 3 n1),(ow 4 n2)]]),(ob 1 y2),(ob 1 y3)]=(impl_scanner_space_od0_p2 ((y0,y1)) ((y2,y3)) y4 y5).map g12p2_F:=by
  subst h1 h2
  simp (maxSteps:=2000000) (maxDischargeDepth:=8) -implicitDefEqProofs [g12p2_c,impl_scanner_space_od0_p2,bslV_lit (α:=Int) (zs:=[(.int .i64 0)])] <;> (try simp only [map_to_bind,some_elim,g12p2_F])
@[reducible,simp] def g12p3_F:((Str×Bool)×(List Int×List Int))→Out:=(fun t=>(.nrm,[(0,(.ptr 0 0 0)),(2,(.ptr 1 0 0)),(3,(.ptr 2 0 0))],[(.live 2 [[(.str t.1.1),(.bool t.1.2)]]),(.live 2 [[.es,.es]]),(.live 2 [[(ow 3 t.2.1.length),(ow 4 t.2.2.length)]]),(ob 1 t.2.1),(ob 1 t.2.2)]))
def impl_scanner_space_od0_p3 (v6:Str×Bool) (v7:List Int×List Int):Option ((Str×Bool)×(List Int×List Int)):=(impl_scanner_number_od0 v6).bind fun r8=>(impl_scanner_accept_o0b r8.1 (([47,42]:Str))).bind fun r9=>if r9.2=true then (impl_scanner_space_od0_p2 r9.1 v7 r8.2 ((-1))).bind fun r18=>some ((r18.1,r18.2)) else (impl_scanner_accept_o0b r9.1 (([47]:Str))).bind fun r10=>if r10.2=true then (impl_scanner_number_od0 r10.1).bind fun r11=>(impl_scanner_space_od0_p2 r11.1 v7 r8.2 r11.2).bind fun r19=>some ((r19.1,r19.2)) else (impl_scanner_space_od0_p2 r10.1 v7 r8.2 r8.2).bind fun r20=>some ((r20.1,r20.2))
@[simp] theorem g12p3_eq (y0 y1)(y2:List Int)(y3:List Int){n1:Nat}(h1:n1=y2.length){n2:Nat}(h2:n2=y3.length):X g12_S g12p3_c [(0,(.ptr 0 0 0)),(2,(.ptr 1 0 0)),(3,(.ptr 2 0 0))] [(.live 2 [[(.str y0),(.bool y1)]]),(.live 2 [[.es,.es]]),(.live 2 [[(ow 3 n1),(ow 4 n2)]]),(ob 1 y2),(ob 1 y3)]=(impl_scanner_space_od0_p3 ((y0,y1)) ((y2,y3))).map g12p3_F:=by
  subst h1 h2
  simp (maxSteps:=2000000) (maxDischargeDepth:=8) -implicitDefEqProofs [g12p3_c,impl_scanner_space_od0_p3,bslV_lit (α:=Int) (zs:=[(.int .i64 0)])] <;> (try simp only [map_to_bind,some_elim,g12p3_F])
@[reducible,simp] def g12l1_F:((Str×Bool)×(List Int×List Int))→Out:=(fun t=>(.ext 0,[(2,(.ptr 1 0 0)),(3,(.ptr 2 0 0))],[(.live 2 [[(.str t.1.1),(.bool t.1.2)]]),(.live 2 [[.es,.es]]),(.live 2 [[(ow 3 t.2.1.length),(ow 4 t.2.2.length)]]),(ob 1 t.2.1),(ob 1 t.2.2)]))
def impl_scanner_space_od0_l1_b (v2:Str×Bool) (v3:List Int×List Int):Option (((Str×Bool)×(List Int×List Int)) ⊕ ((Str×Bool)×(List Int×List Int))):=if ¬(v2.2=true) then (impl_scanner_accept_o0b v2 (([41]:Str))).bind fun r4=>if ¬(r4.2=true) then if ((v3.1.length:Nat):Int) > 0 then (impl_scanner_expect_o0b r4.1 (([44]:Str))).bind fun r5=>(impl_scanner_space_od0_p3 r5 v3).bind fun r21=>some (.inl (r21.1,r21.2)) else (impl_scanner_space_od0_p3 r4.1 v3).bind fun r22=>some (.inl (r22.1,r22.2)) else some (.inr (r4.1,v3)) else some (.inr (v2,v3))
theorem g12l1_b_eq  (v2:Str×Bool) (v3:List Int×List Int):X g12_S g12l1_cb (keepEnv [0,2,3] [(0,(.ptr 0 0 0)),(2,(.ptr 1 0 0)),(3,(.ptr 2 0 0))]) [(.live 2 [[(.str v2.1),(.bool v2.2)]]),(.live 2 [[.es,.es]]),(.live 2 [[(ow 3 v3.1.length),(ow 4 v3.2.length)]]),(ob 1 v3.1),(ob 1 v3.2)]=(impl_scanner_space_od0_l1_b v2 v3).map (Sum.elim (fun s=>(TX.nrm,[(0,(.ptr 0 0 0)),(2,(.ptr 1 0 0)),(3,(.ptr 2 0 0))],[(.live 2 [[(.str s.1.1),(.bool s.1.2)]]),(.live 2 [[.es,.es]]),(.live 2 [[(ow 3 s.2.1.length),(ow 4 s.2.2.length)]]),(ob 1 s.2.1),(ob 1 s.2.2)])) g12l1_F):=by
  simp (maxSteps:=2000000) (maxDischargeDepth:=8) -implicitDefEqProofs [g12l1_cb,impl_scanner_space_od0_l1_b,bslV_lit (α:=Int) (zs:=[(.int .i64 0)])] <;> (try simp only [map_to_bind,some_elim,g12l1_F])
def impl_scanner_space_od0_l1  (s:(Str×Bool)×(List Int×List Int)):Option ((Str×Bool)×(List Int×List Int)):=loopO (fun s=>impl_scanner_space_od0_l1_b  s.1 s.2) s
@[simp] theorem g12l1_eq (y0 y1)(y2:List Int)(y3:List Int){n1:Nat}(h1:n1=y2.length){n2:Nat}(h2:n2=y3.length):X g12_S g12l1_c [(0,(.ptr 0 0 0)),(2,(.ptr 1 0 0)),(3,(.ptr 2 0 0))] [(.live 2 [[(.str y0),(.bool y1)]]),(.live 2 [[.es,.es]]),(.live 2 [[(ow 3 n1),(ow 4 n2)]]),(ob 1 y2),(ob 1 y3)]=(impl_scanner_space_od0_l1  ((y0,y1),(y2,y3))).map g12l1_F:=by
  subst h1 h2
  exact loop_X _ _ _ _ (by intro r;first | (simp;done) | (rcases r with r | r <;> simp;done) | (rcases r with r | r | r <;> simp;done) | (rcases r with r | r | r | r <;> simp)) (fun s=>g12l1_b_eq   s.1 s.2) ((y0,y1),(y2,y3))
@[simp] theorem g12l1_eq_1x0_1x1 (y0 y1):X g12_S g12l1_c [(0,(.ptr 0 0 0)),(2,(.ptr 1 0 0)),(3,(.ptr 2 0 0))] [(.live 2 [[(.str y0),(.bool y1)]]),(.live 2 [[.es,.es]]),(.live 2 [[.es,.es]]),.dead,.dead]=(impl_scanner_space_od0_l1  ((y0,y1),(([]:List Int),([]:List Int)))).map g12l1_F :=
  g12l1_eq  y0 y1 ([]:List Int) ([]:List Int) rfl rfl
def impl_scanner_space_od0 (a1:Str×Bool):Option ((Str×Bool)×(List Int×List Int)):=(impl_scanner_expect_o0b a1 (([40]:Str))).bind fun r1=>(impl_scanner_space_od0_l1 ((r1,(([]:List Int),([]:List Int))))).bind fun r23=>some (r23.1,r23.2)
@[simp] def g12_O:((Str×Bool)×(List Int×List Int))→TV×List Blk:=fun r=>((.agg [(ow 2 r.2.1.length),(ow 3 r.2.2.length)]),[(.live 2 [[(.str r.1.1),(.bool r.1.2)]]),(.live 2 [[(ow 2 r.2.1.length),(ow 3 r.2.2.length)]]),(ob 1 r.2.1),(ob 1 r.2.2)])
abbrev g12_T:=(Str×Bool)
def g12_E (a:g12_T):List TV:=[(.ptr 0 0 0)]
def g12_B (a:g12_T):List Blk:=[(.live 2 [[(.str a.1),(.bool a.2)]])]
theorem g12_run (a1:Str×Bool) :callFn (X g12_S) g12_tf (g12_E a1) (g12_B a1)=(impl_scanner_space_od0 a1).map g12_O:=by
  rw [callFn_eq]
  simp (maxSteps:=2000000) (maxDischargeDepth:=8) -implicitDefEqProofs [g12_tf,impl_scanner_space_od0,g12_E,g12_B,bslV_lit (α:=Int) (zs:=[(.int .i64 0)])] <;> (try simp only [map_to_bind,some_elim,g12_O])
def g12_r:MRule:=RmO g12_E g12_B (fun a=>impl_scanner_space_od0 a) g12_O
theorem g12_ok:MRuleOk Tryz.prog 44 1 g12_r:=ok_rmo (S:=g12_S) (tf:=g12_tf) (SysOk.on trivial ⟨g7_ok,g6_ok,g8_ok,trivial⟩) (trE_ok (ks:=[[0,2,3]]) Tryz.func44 (by kernel_rfl)) (by rfl) (fun _=>by simp [g12_B]) (fun _=>by simp) fun a=>g12_run a
@[simp] theorem g12_app (y0 y1):g12_r [(.ptr 0 0 0)] [(.live 2 [[(.str y0),(.bool y1)]])]=(impl_scanner_space_od0 ((y0,y1))).map g12_O:=by
  exact RmO_app (enc:=g12_E) (encB:=g12_B) (by intro a b h h2;simp [g12_E,g12_B,Prod.ext_iff] at h h2 ⊢;simp [h,h2]) ((y0,y1))
/-! strconv.FormatInt -/
noncomputable def strconv_FormatInt (n:Int):Option Str:=fmtS n
noncomputable def strconv_FormatInt_r:Rule:=fmt_r
@[simp] theorem strconv_FormatInt_app (y0):strconv_FormatInt_r [.int .i64 y0,.int .i64 10]=(strconv_FormatInt y0).map (fun r=>(.str r,[])):=fmtS_app y0
/-! impl.decimal -/
def g58_tf:TFn:=⟨(sq [mk 2 (.c (.str []))] [0] (.seq (.ops [mo 3 0,ca 4 132 [.t 3,ki 10],mo 2 4]) (.keep (kp [(2,0)] [] 0) .ret))),[.t 2]⟩
abbrev g58_S:=Sys.on [(132,strconv_FormatInt_r)] []
def impl_decimal (a_n:Int):Option (Str):=(strconv_FormatInt a_n).bind fun r1=>some r1
@[simp] def g58_O:Str→TV×List Blk:=fun r=>((.str r),[])
def g58_E (a:Int):List TV:=[(.int .i64 a)]
theorem g58_run (a_n:Int) :callFn (X g58_S) g58_tf (g58_E a_n) []=(impl_decimal a_n).map g58_O:=by
  rw [callFn_eq]
  simp (maxSteps:=2000000) (maxDischargeDepth:=8) -implicitDefEqProofs [g58_tf,impl_decimal,g58_E] <;> (try simp only [map_to_bind,some_elim,g58_O])
def g58_r:Rule:=RlO g58_E (fun a=>impl_decimal a) g58_O
theorem g58_ok:RuleOk Tryz.prog 86 g58_r:=ok_rlo (S:=g58_S) (tf:=g58_tf) (SysOk.on ⟨strconv_FormatInt_ok,trivial⟩ trivial) (trE_ok (ks:=[]) Tryz.func86 (by kernel_rfl)) fun a=>g58_run a
@[simp] theorem g58_app (y0):g58_r [(.int .i64 y0)]=(impl_decimal y0).map g58_O :=
  RlO_app (enc:=g58_E) (by intro a b h;simp [g58_E,Prod.ext_iff] at h ⊢;simp [h]) y0
/-! strings.Join -/
noncomputable def strings_Join (l:List Str) (s:Str):Option Str:=joinS l s
noncomputable def strings_Join_r:Rule:=join_r
@[simp] theorem strings_Join_app (y0 y1):strings_Join_r [.vs (rows y0),.str y1]=(strings_Join y0 y1).map (fun r=>(.str r,[])):=joinS_app y0 y1
/-! (impl.Space).text -/
def g43p2_c:TC:=(.after (.ops [mo 38 3,mo 39 6,oo 40 (.bslice [(.str [])] 1 [(0,(.t 39))]),oo 41 (.append 9 1 16 (.t 38) (.t 40)),mo 3 41]) (kp [(1,0),(3,1),(8,0),(9,0),(10,0)] [(0,0),(3,1)] 0))
def g43l1_cb:TC:=(sq [bn 11 .lss (.t 10) (.t 9)] [1,3,8,9,10,11] (.seq (.cond (.t 11) .skip (.keep (kp [(3,1)] [(1,1)] 0) (.exit 0))) (.trim [1,3,8,9,10] (.seq (.block 1 (sq [mo 12 10,ia 13 1 8 10,ld 14 13,mo 4 12,mo 5 14] [1,3,4,5,8,9,10] (sq [mo 15 5,ca 16 86 [.t 15],mo 6 16] [1,3,4,5,6,8,9,10] (.seq (sq [fa 17 1 1,ld 18 17,mo 19 4,ia 20 1 18 19,ld 21 20] [1,3,4,5,6,8,9,10,21] (.block 2 (sq [bn 32 .eql (.t 21) (ki (-1)),mo 31 32] [1,3,4,5,6,8,9,10,21,31] (.cond (.t 31) (.after (.ops [mo 33 6,oo 34 (.bin .str .add (.t 33) (.c (.str [47,42]))),mo 6 34]) (kp [(1,0),(3,1),(6,0),(8,0),(9,0),(10,0)] [(0,0),(1,1)] 0)) (sq [mo 36 5,bn 37 .eql (.t 21) (.t 36),mo 35 37] [1,3,4,6,8,9,10,35] (.cond (.t 35) (.keep (kp [(1,0),(3,1),(6,0),(8,0),(9,0),(10,0)] [(0,0),(1,1)] 0) .skip) (.after (.ops [mo 22 6,fa 23 1 1,ld 24 23,mo 25 4,ia 26 1 24 25,ld 27 26,ca 28 86 [.t 27],oo 29 (.bin .str .add (.c (.str [47])) (.t 28)),oo 30 (.bin .str .add (.t 22) (.t 29)),mo 6 30]) (kp [(1,0),(3,1),(6,0),(8,0),(9,0),(10,0)] [(0,0),(1,1)] 0)))))))) (.trim [1,3,6,8,9,10] g43p2_c))))) (.trim [1,3,8,9,10] (.after (.ops [bn 42 .add (.t 10) (ki 1),mo 10 42]) (kp [(1,0),(3,1),(8,0),(9,0),(10,0)] [(0,0),(1,1)] 0)))))))
def g43l1_c:TC:=.loop [1,3,8,9,10] g43l1_cb
def g43_tf:TFn:=⟨(sq [bx 1 0,mk 2 (.c (.str []))] [1] (sq [mk 3 (.c .nils)] [1,3] (.seq (sq [fa 7 0 1,ld 8 7,le 9 8,mk 10 (ki 0)] [1,3,8,9,10] (.block 0 (.keep (kp [(1,0),(3,1),(8,0),(9,0),(10,0)] [(0,0),(1000,1)] 0) g43l1_c))) (.trim [3] (.seq (.ops [mo 43 3,oo 44 (.call 87 [.t 43,(.c (.str [44]))]),oo 45 (.bin .str .add (.c (.str [40])) (.t 44)),oo 46 (.bin .str .add (.t 45) (.c (.str [41]))),mo 2 46]) (.keep (kp [(2,0)] [] 0) .ret)))))),[.t 2]⟩
abbrev g43_S:=Sys.on [(86,g58_r),(87,strings_Join_r)] []
@[reducible,simp] def g43p2_F:((List Int×List Int)×List Str×List Int×Int×Int)→Out:=(fun t=>(.nrm,[(1,(.ptr 0 0 0)),(3,(ow 1 t.2.1.length)),(8,(.vs (rows t.2.2.1))),(9,(.int .i64 t.2.2.2.1)),(10,(.int .i64 t.2.2.2.2))],[(.live 2 [[(.vs (rows t.1.1)),(.vs (rows t.1.2))]]),(ob 1 t.2.1)]))
def impl_Space_text_p2 (v11:List Int×List Int) (v12:List Str) (v13:Str) (v14:List Int) (v15:Int) (v16:Int):Option ((List Int×List Int)×List Str×List Int×Int×Int):=(appL 16 v12 ((lit [v13]:List Str))).bind fun l17=>some ((v11,l17,v14,v15,v16))
@[simp] theorem g43p2_eq (y0 y1)(y2:List Str)(y3 y4 y5 y6){n1:Nat}(h1:n1=y2.length):X g43_S g43p2_c [(1,(.ptr 0 0 0)),(3,(ow 1 n1)),(6,(.str y3)),(8,(.vs (rows y4))),(9,(.int .i64 y5)),(10,(.int .i64 y6))] [(.live 2 [[(.vs (rows y0)),(.vs (rows y1))]]),(ob 1 y2)]=(impl_Space_text_p2 ((y0,y1)) y2 y3 y4 y5 y6).map g43p2_F:=by
  subst h1
  simp (maxSteps:=2000000) (maxDischargeDepth:=8) -implicitDefEqProofs [g43p2_c,impl_Space_text_p2,bslV_lit (α:=Str) (zs:=[(.str [])])] <;> (try simp only [map_to_bind,some_elim,g43p2_F])
@[reducible,simp] def g43l1_F:(List Str)→Out:=(fun t=>(.ext 0,[(3,(ow 0 t.length))],[(ob 1 t)]))
def impl_Space_text_l1_b (v1:List Int×List Int) (v2:List Str) (v3:List Int) (v4:Int) (v5:Int):Option (((List Int×List Int)×List Str×List Int×Int×Int) ⊕ (List Str)):=if v5 < v4 then if 0≤v5 then (v3[(v5).toNat]?).bind fun x6=>(impl_decimal x6).bind fun r7=>if 0≤v5 then (v1.2[(v5).toNat]?).bind fun x8=>if x8=(-1) then if r7.length+(([47,42]:Str)).length≤9223372036854775807 then (impl_Space_text_p2 v1 v2 ((r7++([47,42]:Str))) v3 v4 v5).bind fun r18=>some (.inl (r18.1,r18.2.1,r18.2.2.1,r18.2.2.2.1,(IntKind.i64.wrap (r18.2.2.2.2+1)))) else none else if x8=x6 then (impl_Space_text_p2 v1 v2 r7 v3 v4 v5).bind fun r19=>some (.inl (r19.1,r19.2.1,r19.2.2.1,r19.2.2.2.1,(IntKind.i64.wrap (r19.2.2.2.2+1)))) else if 0≤v5 then (v1.2[(v5).toNat]?).bind fun x9=>(impl_decimal x9).bind fun r10=>if (([47]:Str)).length+r10.length≤9223372036854775807 then if r7.length+((([47]:Str)++r10)).length≤9223372036854775807 then (impl_Space_text_p2 v1 v2 ((r7++(([47]:Str)++r10))) v3 v4 v5).bind fun r20=>some (.inl (r20.1,r20.2.1,r20.2.2.1,r20.2.2.2.1,(IntKind.i64.wrap (r20.2.2.2.2+1)))) else none else none else none else none else none else some (.inr v2)
theorem g43l1_b_eq  (v1:List Int×List Int) (v2:List Str) (v3:List Int) (v4:Int) (v5:Int):X g43_S g43l1_cb (keepEnv [1,3,8,9,10] [(1,(.ptr 0 0 0)),(3,(ow 1 v2.length)),(8,(.vs (rows v3))),(9,(.int .i64 v4)),(10,(.int .i64 v5))]) [(.live 2 [[(.vs (rows v1.1)),(.vs (rows v1.2))]]),(ob 1 v2)]=(impl_Space_text_l1_b v1 v2 v3 v4 v5).map (Sum.elim (fun s=>(TX.nrm,[(1,(.ptr 0 0 0)),(3,(ow 1 s.2.1.length)),(8,(.vs (rows s.2.2.1))),(9,(.int .i64 s.2.2.2.1)),(10,(.int .i64 s.2.2.2.2))],[(.live 2 [[(.vs (rows s.1.1)),(.vs (rows s.1.2))]]),(ob 1 s.2.1)])) g43l1_F):=by
  simp (maxSteps:=2000000) (maxDischargeDepth:=8) -implicitDefEqProofs [g43l1_cb,impl_Space_text_l1_b,bslV_lit (α:=Str) (zs:=[(.str [])])] <;> (try simp only [map_to_bind,some_elim,g43l1_F])
def impl_Space_text_l1  (s:(List Int×List Int)×List Str×List Int×Int×Int):Option (List Str):=loopO (fun s=>impl_Space_text_l1_b  s.1 s.2.1 s.2.2.1 s.2.2.2.1 s.2.2.2.2) s
@[simp] theorem g43l1_eq (y0 y1)(y2:List Str)(y3 y4 y5){n1:Nat}(h1:n1=y2.length):X g43_S g43l1_c [(1,(.ptr 0 0 0)),(3,(ow 1 n1)),(8,(.vs (rows y3))),(9,(.int .i64 y4)),(10,(.int .i64 y5))] [(.live 2 [[(.vs (rows y0)),(.vs (rows y1))]]),(ob 1 y2)]=(impl_Space_text_l1  ((y0,y1),y2,y3,y4,y5)).map g43l1_F:=by
  subst h1
  exact loop_X _ _ _ _ (by intro r;first | (simp;done) | (rcases r with r | r <;> simp;done) | (rcases r with r | r | r <;> simp;done) | (rcases r with r | r | r | r <;> simp)) (fun s=>g43l1_b_eq   s.1 s.2.1 s.2.2.1 s.2.2.2.1 s.2.2.2.2) ((y0,y1),y2,y3,y4,y5)
@[simp] theorem g43l1_eq_1 (y0 y1 y2 y3 y4):X g43_S g43l1_c [(1,(.ptr 0 0 0)),(3,.es),(8,(.vs (rows y2))),(9,(.int .i64 y3)),(10,(.int .i64 y4))] [(.live 2 [[(.vs (rows y0)),(.vs (rows y1))]]),.dead]=(impl_Space_text_l1  ((y0,y1),([]:List Str),y2,y3,y4)).map g43l1_F :=
  g43l1_eq  y0 y1 ([]:List Str) y2 y3 y4 rfl
def impl_Space_text (a_s:List Int×List Int):Option (Str):=(impl_Space_text_l1 ((a_s,([]:List Str),a_s.1,(a_s.1.length:Int),0))).bind fun r21=>(strings_Join r21 (([44]:Str))).bind fun r22=>if (([40]:Str)).length+r22.length≤9223372036854775807 then if ((([40]:Str)++r22)).length+(([41]:Str)).length≤9223372036854775807 then some (((([40]:Str)++r22)++([41]:Str))) else none else none
@[simp] def g43_O:Str→TV×List Blk:=fun r=>((.str r),[])
def g43_E (a:(List Int×List Int)):List TV:=[(.agg [(.vs (rows a.1)),(.vs (rows a.2))])]
theorem g43_run (a_s:List Int×List Int) :callFn (X g43_S) g43_tf (g43_E a_s) []=(impl_Space_text a_s).map g43_O:=by
  rw [callFn_eq]
  simp (maxSteps:=2000000) (maxDischargeDepth:=8) -implicitDefEqProofs [g43_tf,impl_Space_text,g43_E,bslV_lit (α:=Str) (zs:=[(.str [])])] <;> (try simp only [map_to_bind,some_elim,g43_O])
def g43_r:Rule:=RlO g43_E (fun a=>impl_Space_text a) g43_O
theorem g43_ok:RuleOk Tryz.prog 45 g43_r:=ok_rlo (S:=g43_S) (tf:=g43_tf) (SysOk.on ⟨g58_ok,strings_Join_ok,trivial⟩ trivial) (trE_ok (ks:=[[1,3,8,9,10]]) Tryz.func45 (by kernel_rfl)) fun a=>g43_run a
@[simp] theorem g43_app (y0 y1):g43_r [(.agg [(.vs (rows y0)),(.vs (rows y1))])]=(impl_Space_text ((y0,y1))).map g43_O :=
  RlO_app (enc:=g43_E) (by intro a b h;simp [g43_E,Prod.ext_iff] at h ⊢;simp [h]) ((y0,y1))
/-! impl.ReadSpace -/
def g48_tf:TFn:=⟨(sq [oo 2 (.alloc [.nils,.nils]),mk 3 (kb false)] [0,2] (sq [mo 6 0,oo 7 (.build [(.str []),(.bool false)] [(0,1,(.t 6))]),bx 8 7,mo 4 8] [0,2,4] (sq [mo 9 4,oo 10 (.callM 44 0 [1] [.t 9]),oo 5 (.alloc [.nils,.nils]),⟨none,none,(.store 2 (.t 5) (.t 10))⟩] [0,2,4,5] (.seq (sq [mo 11 4,nk 12 11,fa 13 1 12,ld 14 13,mo 15 14,⟨(some 16),(some (15,false)),(.load (some 2) (.t 5))⟩,⟨(some 17),(some (15,false)),(.call 39 [.t 16])⟩,⟨(some 18),(some (15,false)),(.un .not (.t 17))⟩,pk 19 (.t 15) (kb true) (.t 18),mo 20 19,⟨(some 21),(some (20,false)),(.load (some 2) (.t 5))⟩,⟨(some 22),(some (20,false)),(.call 45 [.t 21])⟩,⟨(some 23),(some (20,false)),(.mv (.t 0))⟩,⟨(some 24),(some (20,false)),(.bin .str .neq (.t 22) (.t 23))⟩,pk 25 (.t 20) (kb true) (.t 24)] [2,5,25] (.cond (.t 25) (.seq (.ops [oo 26 (.build [.nils,.nils] []),⟨none,none,(.store 2 (.t 2) (.t 26))⟩,mk 3 (kb false)]) (.keep (kp [(2,0),(3,0)] [(0,2),(1000,1),(1001,1)] 0) .ret)) .skip)) (.trim [2,5] (.seq (.ops [ln 27 2 5,⟨none,none,(.store 2 (.t 2) (.t 27))⟩,mk 3 (kb true)]) (.keep (kp [(2,0),(3,0)] [(0,2),(3,1),(4,1)] 0) .ret))))))),[.cell 2 (some 2),.t 3]⟩
abbrev g48_S:=Sys.on [(39,g41_r),(45,g43_r)] [((44,0),(1,g12_r))]
def impl_ReadSpace (a_s:Str):Option ((List Int×List Int)×Bool):=(impl_scanner_space_od0 ((a_s,false))).bind fun r1=>if r1.1.2=true then some ((([]:List Int),([]:List Int)),false) else (impl_ValidSpace r1.2).bind fun r2=>if ¬(r2=true) then some ((([]:List Int),([]:List Int)),false) else (impl_Space_text r1.2).bind fun r3=>if ¬(r3=a_s) then some ((([]:List Int),([]:List Int)),false) else some (r1.2,true)
@[simp] def g48_O:((List Int×List Int)×Bool)→TV×List Blk:=fun r=>((.tup [(.agg [(ow 1 r.1.1.length),(ow 2 r.1.2.length)]),(.bool r.2)]),[(.live 2 [[(ow 1 r.1.1.length),(ow 2 r.1.2.length)]]),(ob 1 r.1.1),(ob 1 r.1.2)])
def g48_E (a:Str):List TV:=[(.str a)]
theorem g48_run (a_s:Str) :callFn (X g48_S) g48_tf (g48_E a_s) []=(impl_ReadSpace a_s).map g48_O:=by
  rw [callFn_eq]
  simp (maxSteps:=2000000) (maxDischargeDepth:=8) -implicitDefEqProofs [g48_tf,impl_ReadSpace,g48_E] <;> (try simp only [map_to_bind,some_elim,g48_O])
def g48_r:Rule:=RlO g48_E (fun a=>impl_ReadSpace a) g48_O
theorem g48_ok:RuleOk Tryz.prog 12 g48_r:=ok_rlo (S:=g48_S) (tf:=g48_tf) (SysOk.on ⟨g41_ok,g43_ok,trivial⟩ ⟨g12_ok,trivial⟩) (trE_ok (ks:=[]) Tryz.func12 (by kernel_rfl)) fun a=>g48_run a
@[simp] theorem g48_app (y0):g48_r [(.str y0)]=(impl_ReadSpace y0).map g48_O :=
  RlO_app (enc:=g48_E) (by intro a b h;simp [g48_E,Prod.ext_iff] at h ⊢;simp [h]) y0
/-! impl.SpaceText -/
def g49_tf:TFn:=⟨(sq [bx 1 0,mk 2 (.c (.str []))] [1] (.seq (sq [ln 3 2 1,ca 4 39 [.t 3],nt 5 4] [1,5] (.cond (.t 5) (.seq (.ops [mk 2 (.c (.str []))]) (.keep (kp [(2,0)] [] 0) .ret)) .skip)) (.trim [1] (.seq (.ops [ln 6 2 1,ca 7 45 [.t 6],mo 2 7]) (.keep (kp [(2,0)] [] 0) .ret))))),[.t 2]⟩
abbrev g49_S:=Sys.on [(39,g41_r),(45,g43_r)] []
def impl_SpaceText (a_s:List Int×List Int):Option (Str):=(impl_ValidSpace a_s).bind fun r1=>if ¬(r1=true) then some (([]:Str)) else (impl_Space_text a_s).bind fun r2=>some r2
@[simp] def g49_O:Str→TV×List Blk:=fun r=>((.str r),[])
def g49_E (a:(List Int×List Int)):List TV:=[(.agg [(.vs (rows a.1)),(.vs (rows a.2))])]
theorem g49_run (a_s:List Int×List Int) :callFn (X g49_S) g49_tf (g49_E a_s) []=(impl_SpaceText a_s).map g49_O:=by
  rw [callFn_eq]
  simp (maxSteps:=2000000) (maxDischargeDepth:=8) -implicitDefEqProofs [g49_tf,impl_SpaceText,g49_E] <;> (try simp only [map_to_bind,some_elim,g49_O])
def g49_r:Rule:=RlO g49_E (fun a=>impl_SpaceText a) g49_O
theorem g49_ok:RuleOk Tryz.prog 13 g49_r:=ok_rlo (S:=g49_S) (tf:=g49_tf) (SysOk.on ⟨g41_ok,g43_ok,trivial⟩ trivial) (trE_ok (ks:=[]) Tryz.func13 (by kernel_rfl)) fun a=>g49_run a
@[simp] theorem g49_app (y0 y1):g49_r [(.agg [(.vs (rows y0)),(.vs (rows y1))])]=(impl_SpaceText ((y0,y1))).map g49_O :=
  RlO_app (enc:=g49_E) (by intro a b h;simp [g49_E,Prod.ext_iff] at h ⊢;simp [h]) ((y0,y1))
/-! spec.l05Bent -/
def g37_tf:TFn:=⟨(sq [mk 2 (.c .nils)] [0] (sq [mo 4 0,oo 5 (.callM 76 0 [0] [.t 4]),mo 3 5] [0,3] (.seq (sq [mo 6 0,oo 7 (.callM 37 0 [0] [.t 6,ki 12])] [0,3,7] (.block 0 (sq [bn 9 .eql (.t 7) (ki 0),mo 8 9] [0,3,7,8] (.cond (.t 8) (.after (.ops [mo 10 3,mo 11 0,oo 12 (.bslice [(.int .i64 0)] 4 [(0,(ki (-1))),(1,(ki 40)),(2,(ki 41)),(3,(ki 0))]),oo 13 (.callM 88 0 [0,2] [.t 11,.t 12]),oo 14 (.bslice [(.int .i64 0)] 1 [(0,(.t 13))]),oo 15 (.append 2 1 8 (.t 10) (.t 14)),mo 3 15]) (kp [(3,1)] [(0,0),(4,1)] 1)) (sq [bn 17 .eql (.t 7) (ki 1),mo 16 17] [0,3,7,16] (.cond (.t 16) (.after (.ops [mo 18 3,oo 19 (.bslice [(.int .i64 0)] 3 [(0,(ki 1)),(1,(ki 1)),(2,(ki 1))]),oo 20 (.append 2 1 8 (.t 18) (.t 19)),mo 3 20]) (kp [(3,1)] [(0,0),(3,1)] 1)) (sq [bn 22 .eql (.t 7) (ki 2),mo 21 22] [0,3,21] (.cond (.t 21) (sq [oo 23 (.bslice [(.int .i64 0)] 2 [(0,(ki 25)),(1,(ki 24))]),mo 3 23] [0,3] (.after (.drawF [(none,mo 24 3),(none,oo 25 (.iaddr 1 (.t 24) (ki 1))),(none,ld 26 25),(none,mo 27 0),(some [24,25,26],oo 28 (.callM 37 0 [0] [.t 27,ki 2]))] [bn 29 .add (.t 26) (.t 28),oo 30 (.iaddr 1 (.t 24) (ki 1)),⟨none,none,(.store 1 (.t 30) (.t 29))⟩]) (kp [(3,1)] [(0,0),(2,1)] 1))) (.keep (kp [(3,1)] [(0,0),(1,1)] 1) .skip))))))))) (.trim [3] (.seq (.ops [mo 31 3,mo 2 31]) (.keep (kp [(2,1)] [(0,0),(1,1)] 1) .ret)))))),[.t 2]⟩
abbrev g37_S:=Sys.on [] [((76,0),(1,g20_r)),((37,0),(1,g19_r)),((88,0),(2,g13_r))]
def spec_l05Bent_o9d (a1:List Bt) (a2:Int) (a3:Int):Option (List Bt×Int×Int×List Int):=(spec_l05DrawDims_o9d a1 a2 a3).bind fun r1=>(spec_l00Src_pick_o30 r1.1 r1.2.1 r1.2.2.1 12).bind fun r2=>if r2.2.2.2=0 then (spec_l00Src_among_o72 r2.1 r2.2.1 r2.2.2.1 ((lit [(-1),40,41,0]:List Int))).bind fun r3=>if r3.2.2.2.1.length=((lit [(-1),40,41,0]:List Int)).length then (appL 8 r1.2.2.2 ((lit [r3.2.2.2.2]:List Int))).bind fun l4=>some (r3.1,r3.2.1,r3.2.2.1,l4) else none else if r2.2.2.2=1 then (appL 8 r1.2.2.2 ((lit [1,1,1]:List Int))).bind fun l5=>some (r2.1,r2.2.1,r2.2.2.1,l5) else if r2.2.2.2=2 then if 0≤(1:Int)∧(1:Int) < (((lit [25,24]:List Int).length:Nat):Int) then (((lit [25,24]:List Int))[((1:Int)).toNat]?).bind fun x6=>(spec_l00Src_pick_o30 r2.1 r2.2.1 r2.2.2.1 2).bind fun r7=>if (0≤(1:Int)∧(1:Int) < (((lit [25,24]:List Int).length:Nat):Int))∧((lit [25,24]:List Int))[((1:Int)).toNat]?=some x6 then if 0≤(1:Int)∧(1:Int) < (((lit [25,24]:List Int).length:Nat):Int) then (((lit [25,24]:List Int))[((1:Int)).toNat]?).bind fun x8=>some (r7.1,r7.2.1,r7.2.2.1,(((lit [25,24]:List Int)).set ((1:Int)).toNat (IntKind.i64.wrap (x6+r7.2.2.2)))) else none else none else none else some (r2.1,r2.2.1,r2.2.2.1,r1.2.2.2)
@[simp] def g37_O:(List Bt×Int×Int×List Int)→TV×List Blk:=fun r=>((ow 1 r.2.2.2.length),[(.live 3 [[(.vs (rows r.1)),(.int .i64 r.2.1),(.int .u64 r.2.2.1)]]),(ob 1 r.2.2.2)])
abbrev g37_T:=List Bt×Int×Int
def g37_E (a:g37_T):List TV:=[(.ptr 0 0 0)]
def g37_B (a:g37_T):List Blk:=[(.live 3 [[(.vs (rows a.1)),(.int .i64 a.2.1),(.int .u64 a.2.2)]])]
theorem g37_run (a1:List Bt) (a2:Int) (a3:Int) :callFn (X g37_S) g37_tf (g37_E (a1,a2,a3)) (g37_B (a1,a2,a3))=(spec_l05Bent_o9d a1 a2 a3).map g37_O:=by
  rw [callFn_eq]
  simp (maxSteps:=2000000) (maxDischargeDepth:=8) -implicitDefEqProofs [g37_tf,spec_l05Bent_o9d,g37_E,g37_B,bslV_lit (α:=Int) (zs:=[(.int .i64 0)])] <;> (try simp only [map_to_bind,some_elim,g37_O])
def g37_r:MRule:=RmO g37_E g37_B (fun a=>spec_l05Bent_o9d a.1 a.2.1 a.2.2) g37_O
theorem g37_ok:MRuleOk Tryz.prog 49 1 g37_r:=ok_rmo (S:=g37_S) (tf:=g37_tf) (SysOk.on trivial ⟨g20_ok,g19_ok,g13_ok,trivial⟩) (trE_ok (ks:=[[5,2000000,0,0,0,0,0,4,24,25,26]]) Tryz.func49 (by kernel_rfl)) (by rfl) (fun _=>by simp [g37_B]) (fun _=>by simp) fun a=>g37_run a.1 a.2.1 a.2.2
@[simp] theorem g37_app (y0 y1 y2):g37_r [(.ptr 0 0 0)] [(.live 3 [[(.vs (rows y0)),(.int .i64 y1),(.int .u64 y2)]])]=(spec_l05Bent_o9d y0 y1 y2).map g37_O:=by
  exact RmO_app (enc:=g37_E) (encB:=g37_B) (by intro a b h h2;simp [g37_E,g37_B,Prod.ext_iff] at h h2 ⊢;simp [h,h2]) (y0,y1,y2)
/-! spec.l05BentSpace -/
def g17_tf:TFn:=⟨(sq [oo 2 (.alloc [.nils,.nils])] [0,2] (sq [mo 4 0,oo 5 (.callM 36 0 [0] [.t 4]),oo 3 (.alloc [.nils,.nils]),⟨none,none,(.store 2 (.t 3) (.t 5))⟩] [0,2,3] (.seq (sq [mo 6 0,oo 7 (.callM 37 0 [0] [.t 6,ki 10])] [0,2,3,7] (.block 0 (sq [bn 9 .eql (.t 7) (ki 0),mo 8 9] [0,2,3,7,8] (.cond (.t 8) (.after (.ops [mo 10 0,oo 11 (.callM 49 0 [0] [.t 10]),fa 12 0 3,⟨none,none,(.store 1 (.t 12) (.t 11))⟩]) (kp [(2,0),(3,0)] [(0,0),(1,2),(5,2),(6,1),(4,1)] 1)) (sq [bn 14 .eql (.t 7) (ki 1),mo 13 14] [0,2,3,7,13] (.cond (.t 13) (.after (.drawF [(none,fa 15 1 3),(none,ld 16 15),(none,mo 17 0),(some [15,16],oo 18 (.callM 37 0 [0] [.t 17,ki 50])),(none,bn 19 .sub (.t 18) (ki 2)),(some [15,16],oo 20 (.bslice [(.int .i64 0)] 1 [(0,(.t 19))]))] [oo 21 (.append 2 1 8 (.t 16) (.t 20)),fa 22 1 3,⟨none,none,(.store 1 (.t 22) (.t 21))⟩]) (kp [(2,0),(3,0)] [(0,0),(1,2),(5,2),(3,1),(7,1)] 1)) (sq [bn 24 .eql (.t 7) (ki 2),mo 23 24] [0,2,3,23] (.cond (.t 23) (sq [fa 25 1 3,ld 26 25,le 27 26,bn 28 .gtr (.t 27) (ki 0)] [0,2,3,28] (.cond (.t 28) (.after (.drawF [(none,fa 29 1 3),(none,ld 30 29),(none,mo 31 0),(some [29,30,31],oo 32 (.bslice [(.int .i64 0)] 4 [(0,(ki (-2))),(1,(ki 0)),(2,(ki 40)),(3,(ki 41))])),(some [29,30],oo 33 (.callM 88 0 [0,6] [.t 31,.t 32]))] [oo 34 (.iaddr 1 (.t 30) (ki 0)),⟨none,none,(.store 1 (.t 34) (.t 33))⟩]) (kp [(2,0),(3,0)] [(0,0),(1,2),(5,2),(3,1),(4,1)] 1)) (.keep (kp [(2,0),(3,0)] [(0,0),(1,2),(5,2),(3,1),(4,1)] 1) .skip))) (.keep (kp [(2,0),(3,0)] [(0,0),(1,2),(5,2),(3,1),(4,1)] 1) .skip))))))))) (.trim [2,3] (.seq (.ops [ln 35 2 3,⟨none,none,(.store 2 (.t 2) (.t 35))⟩]) (.keep (kp [(2,0)] [(0,0),(1,2),(3,1),(4,1)] 1) .ret)))))),[.cell 2 (some 2)]⟩
abbrev g17_S:=Sys.on [] [((36,0),(1,g14_r)),((37,0),(1,g19_r)),((49,0),(1,g37_r)),((88,0),(2,g13_r))]
def spec_l05BentSpace_o9d (a1:List Bt) (a2:Int) (a3:Int):Option (List Bt×Int×Int×(List Int×List Int)):=(spec_l05DrawSpace_o9d a1 a2 a3).bind fun r1=>(spec_l00Src_pick_o30 r1.1 r1.2.1 r1.2.2.1 10).bind fun r2=>if r2.2.2.2=0 then (spec_l05Bent_o9d r2.1 r2.2.1 r2.2.2.1).bind fun r3=>some (r3.1,r3.2.1,r3.2.2.1,(r3.2.2.2,r1.2.2.2.2)) else if r2.2.2.2=1 then (spec_l00Src_pick_o30 r2.1 r2.2.1 r2.2.2.1 50).bind fun r4=>(appL 8 r1.2.2.2.2 ((lit [(IntKind.i64.wrap (r4.2.2.2 - 2))]:List Int))).bind fun l5=>some (r4.1,r4.2.1,r4.2.2.1,(r1.2.2.2.1,l5)) else if r2.2.2.2=2 then if ((r1.2.2.2.2.length:Nat):Int) > 0 then (spec_l00Src_among_o72 r2.1 r2.2.1 r2.2.2.1 ((lit [(-2),0,40,41]:List Int))).bind fun r6=>if r6.2.2.2.1.length=((lit [(-2),0,40,41]:List Int)).length then if 0≤(0:Int)∧(0:Int) < ((r1.2.2.2.2.length:Nat):Int) then (r1.2.2.2.2[((0:Int)).toNat]?).bind fun x7=>some (r6.1,r6.2.1,r6.2.2.1,(r1.2.2.2.1,(r1.2.2.2.2.set ((0:Int)).toNat r6.2.2.2.2))) else none else none else some (r2.1,r2.2.1,r2.2.2.1,r1.2.2.2) else some (r2.1,r2.2.1,r2.2.2.1,r1.2.2.2)
@[simp] def g17_O:(List Bt×Int×Int×(List Int×List Int))→TV×List Blk:=fun r=>((.agg [(ow 2 r.2.2.2.1.length),(ow 3 r.2.2.2.2.length)]),[(.live 3 [[(.vs (rows r.1)),(.int .i64 r.2.1),(.int .u64 r.2.2.1)]]),(.live 2 [[(ow 2 r.2.2.2.1.length),(ow 3 r.2.2.2.2.length)]]),(ob 1 r.2.2.2.1),(ob 1 r.2.2.2.2)])
abbrev g17_T:=List Bt×Int×Int
def g17_E (a:g17_T):List TV:=[(.ptr 0 0 0)]
def g17_B (a:g17_T):List Blk:=[(.live 3 [[(.vs (rows a.1)),(.int .i64 a.2.1),(.int .u64 a.2.2)]])]
theorem g17_run (a1:List Bt) (a2:Int) (a3:Int) :callFn (X g17_S) g17_tf (g17_E (a1,a2,a3)) (g17_B (a1,a2,a3))=(spec_l05BentSpace_o9d a1 a2 a3).map g17_O:=by
  rw [callFn_eq]
  simp (maxSteps:=2000000) (maxDischargeDepth:=8) -implicitDefEqProofs [g17_tf,spec_l05BentSpace_o9d,g17_E,g17_B,bslV_lit (α:=Int) (zs:=[(.int .i64 0)])] <;> (try simp only [map_to_bind,some_elim,g17_O])
def g17_r:MRule:=RmO g17_E g17_B (fun a=>spec_l05BentSpace_o9d a.1 a.2.1 a.2.2) g17_O
theorem g17_ok:MRuleOk Tryz.prog 46 1 g17_r:=ok_rmo (S:=g17_S) (tf:=g17_tf) (SysOk.on trivial ⟨g14_ok,g19_ok,g37_ok,g13_ok,trivial⟩) (trE_ok (ks:=[[6,2000000,0,0,0,0,3,15,16,0,3,15,16],[5,2000000,0,0,0,0,4,29,30,31,3,29,30]]) Tryz.func46 (by kernel_rfl)) (by rfl) (fun _=>by simp [g17_B]) (fun _=>by simp) fun a=>g17_run a.1 a.2.1 a.2.2
@[simp] theorem g17_app (y0 y1 y2):g17_r [(.ptr 0 0 0)] [(.live 3 [[(.vs (rows y0)),(.int .i64 y1),(.int .u64 y2)]])]=(spec_l05BentSpace_o9d y0 y1 y2).map g17_O:=by
  exact RmO_app (enc:=g17_E) (encB:=g17_B) (by intro a b h h2;simp [g17_E,g17_B,Prod.ext_iff] at h h2 ⊢;simp [h,h2]) (y0,y1,y2)
/-! spec.l00Own -/
def g61_tf:TFn:=⟨(sq [mk 2 (.c .nils)] [0] (.seq (.ops [oo 3 (.bslice [(.int .i64 0)] 0 []),mo 4 0,oo 5 (.append 2 1 8 (.t 3) (.t 4)),mo 2 5]) (.keep (kp [(2,1)] [(0,1)] 0) .ret))),[.t 2]⟩
abbrev g61_S:=Sys.on [] []
def spec_l00Own (a_list:List Int):Option (List Int):=(appL 8 ([]:List Int) a_list).bind fun l1=>some l1
@[simp] def g61_O:List Int→TV×List Blk:=fun r=>((ow 0 r.length),[(ob 1 r)])
def g61_E (a:List Int):List TV:=[(.vs (rows a))]
theorem g61_run (a_list:List Int) :callFn (X g61_S) g61_tf (g61_E a_list) []=(spec_l00Own a_list).map g61_O:=by
  rw [callFn_eq]
  simp (maxSteps:=2000000) (maxDischargeDepth:=8) -implicitDefEqProofs [g61_tf,spec_l00Own,g61_E] <;> (try simp only [map_to_bind,some_elim,g61_O])
def g61_r:Rule:=RlO g61_E (fun a=>spec_l00Own a) g61_O
theorem g61_ok:RuleOk Tryz.prog 47 g61_r:=ok_rlo (S:=g61_S) (tf:=g61_tf) (SysOk.on trivial trivial) (trE_ok (ks:=[]) Tryz.func47 (by kernel_rfl)) fun a=>g61_run a
@[simp] theorem g61_app (y0):g61_r [(.vs (rows y0))]=(spec_l00Own y0).map g61_O :=
  RlO_app (enc:=g61_E) (by intro a b h;simp [g61_E,Prod.ext_iff] at h ⊢;simp [h]) y0
/-! spec.DrawResizeSpace -/
def g23l1_cb:TC:=(.seq (sq [mo 15 7,mo 16 6,le 17 16,bn 18 .lss (.t 15) (.t 17)] [2,4,5,6,7,18] (.cond (.t 18) .skip (.keep (kp [(2,0),(4,0),(5,0),(6,1)] [(0,2),(1,0),(2,2),(3,1),(4,1),(5,1)] 0) (.exit 0)))) (.trim [2,4,5,6,7] (.seq (.block 1 (sq [mo 21 4,oo 22 (.callM 48 0 [1] [.t 21,ki 2])] [2,4,5,6,7,22] (.cond (.t 22) (.after (.ops [mo 23 6,mo 24 7,mo 25 4,oo 26 (.callM 37 0 [1] [.t 25,ki 8]),ia 27 1 23 24,⟨none,none,(.store 1 (.t 27) (.t 26))⟩]) (kp [(2,0),(4,0),(5,0),(6,1),(7,0)] [(0,2),(1,0),(2,2),(3,1),(4,1),(5,1)] 0)) (.keep (kp [(2,0),(4,0),(5,0),(6,1),(7,0)] [(0,2),(1,0),(2,2),(3,1),(4,1),(5,1)] 0) .skip)))) (.trim [2,4,5,6,7] (.after (.ops [mo 19 7,bn 20 .add (.t 19) (ki 1),mo 7 20]) (kp [(2,0),(4,0),(5,0),(6,1),(7,0)] [(0,2),(1,0),(2,2),(3,1),(4,1),(5,1)] 0))))))
def g23l1_c:TC:=.loop [2,4,5,6,7] g23l1_cb
def g23_tf:TFn:=⟨(sq [oo 2 (.alloc [.nils,.nils]),mk 3 (.c .nils)] [0,2] (sq [mo 8 0,ca 9 34 [.t 8],mo 4 9] [2,4] (sq [mo 10 4,oo 11 (.callM 46 0 [1] [.t 10]),oo 5 (.alloc [.nils,.nils]),⟨none,none,(.store 2 (.t 5) (.t 11))⟩] [2,4,5] (sq [fa 12 0 5,ld 13 12,ca 14 47 [.t 13],mo 6 14] [2,4,5,6] (.seq (sq [mk 7 (ki 0)] [2,4,5,6,7] (.block 0 (.keep (kp [(2,0),(4,0),(5,0),(6,1),(7,0)] [(0,2),(1,0),(5,2),(3,1),(4,1),(6,1)] 0) g23l1_c))) (.trim [2,4,5,6] (.seq (sq [mo 28 4,oo 29 (.callM 48 0 [1] [.t 28,ki 8])] [2,4,5,6,29] (.cond (.t 29) (.after (.ops [mo 30 4,oo 31 (.callM 49 0 [1] [.t 30]),mo 6 31]) (kp [(2,0),(5,0),(6,1)] [(0,2),(2,2),(3,1),(4,1),(6,1)] 0)) (.keep (kp [(2,0),(5,0),(6,1)] [(0,2),(2,2),(3,1),(4,1),(5,1)] 0) .skip))) (.trim [2,5,6] (.seq (.ops [ln 32 2 5,mo 33 6,⟨none,none,(.store 2 (.t 2) (.t 32))⟩,mo 3 33]) (.keep (kp [(2,0),(3,1)] [(0,2),(2,1),(3,1),(4,1)] 0) .ret)))))))))),[.cell 2 (some 2),.t 3]⟩
abbrev g23_S:=Sys.on [(34,g53_r),(47,g61_r)] [((46,0),(1,g17_r)),((48,0),(1,g25_r)),((37,0),(1,g19_r)),((49,0),(1,g37_r))]
@[reducible,simp] def g23l1_F:(List Bt×Int×Int×(List Int×List Int)×List Int)→Out:=(fun t=>(.ext 0,[(2,(.ptr 0 0 0)),(4,(.ptr 1 0 0)),(5,(.ptr 2 0 0)),(6,(ow 5 t.2.2.2.2.length))],[(.live 2 [[.es,.es]]),(.live 3 [[(.vs (rows t.1)),(.int .i64 t.2.1),(.int .u64 t.2.2.1)]]),(.live 2 [[(ow 3 t.2.2.2.1.1.length),(ow 4 t.2.2.2.1.2.length)]]),(ob 1 t.2.2.2.1.1),(ob 1 t.2.2.2.1.2),(ob 1 t.2.2.2.2)]))
def spec_DrawResizeSpace_l1_b (v7:List Int×List Int) (v4:List Bt) (v5:Int) (v6:Int) (v8:List Int) (v9:Int):Option ((List Bt×Int×Int×List Int×Int) ⊕ (List Bt×Int×Int×(List Int×List Int)×List Int)):=if v9 < ((v8.length:Nat):Int) then (spec_l00Src_one_o30 v4 v5 v6 2).bind fun r10=>if r10.2.2.2=true then (spec_l00Src_pick_o30 r10.1 r10.2.1 r10.2.2.1 8).bind fun r11=>if 0≤v9∧v9 < ((v8.length:Nat):Int) then (v8[(v9).toNat]?).bind fun x12=>some (.inl (r11.1,r11.2.1,r11.2.2.1,(v8.set (v9).toNat r11.2.2.2),(IntKind.i64.wrap (v9+1)))) else none else some (.inl (r10.1,r10.2.1,r10.2.2.1,v8,(IntKind.i64.wrap (v9+1)))) else some (.inr (v4,v5,v6,v7,v8))
theorem g23l1_b_eq  (v7:List Int×List Int) (v4:List Bt) (v5:Int) (v6:Int) (v8:List Int) (v9:Int):X g23_S g23l1_cb (keepEnv [2,4,5,6,7] [(2,(.ptr 0 0 0)),(4,(.ptr 1 0 0)),(5,(.ptr 2 0 0)),(6,(ow 5 v8.length)),(7,(.int .i64 v9))]) [(.live 2 [[.es,.es]]),(.live 3 [[(.vs (rows v4)),(.int .i64 v5),(.int .u64 v6)]]),(.live 2 [[(ow 3 v7.1.length),(ow 4 v7.2.length)]]),(ob 1 v7.1),(ob 1 v7.2),(ob 1 v8)]=(spec_DrawResizeSpace_l1_b v7 v4 v5 v6 v8 v9).map (Sum.elim (fun s=>(TX.nrm,[(2,(.ptr 0 0 0)),(4,(.ptr 1 0 0)),(5,(.ptr 2 0 0)),(6,(ow 5 s.2.2.2.1.length)),(7,(.int .i64 s.2.2.2.2))],[(.live 2 [[.es,.es]]),(.live 3 [[(.vs (rows s.1)),(.int .i64 s.2.1),(.int .u64 s.2.2.1)]]),(.live 2 [[(ow 3 v7.1.length),(ow 4 v7.2.length)]]),(ob 1 v7.1),(ob 1 v7.2),(ob 1 s.2.2.2.1)])) g23l1_F):=by
  simp (maxSteps:=2000000) (maxDischargeDepth:=8) -implicitDefEqProofs [g23l1_cb,spec_DrawResizeSpace_l1_b] <;> (try simp only [map_to_bind,some_elim,g23l1_F])
def spec_DrawResizeSpace_l1 (v7:List Int×List Int) (s:List Bt×Int×Int×List Int×Int):Option (List Bt×Int×Int×(List Int×List Int)×List Int):=loopO (fun s=>spec_DrawResizeSpace_l1_b v7 s.1 s.2.1 s.2.2.1 s.2.2.2.1 s.2.2.2.2) s
@[simp] theorem g23l1_eq (y0 y1 y2)(y3:List Int)(y4:List Int)(y5:List Int)(y6){n1:Nat}(h1:n1=y5.length){n2:Nat}(h2:n2=y3.length){n3:Nat}(h3:n3=y4.length):X g23_S g23l1_c [(2,(.ptr 0 0 0)),(4,(.ptr 1 0 0)),(5,(.ptr 2 0 0)),(6,(ow 5 n1)),(7,(.int .i64 y6))] [(.live 2 [[.es,.es]]),(.live 3 [[(.vs (rows y0)),(.int .i64 y1),(.int .u64 y2)]]),(.live 2 [[(ow 3 n2),(ow 4 n3)]]),(ob 1 y3),(ob 1 y4),(ob 1 y5)]=(spec_DrawResizeSpace_l1 ((y3,y4)) (y0,y1,y2,y5,y6)).map g23l1_F:=by
  subst h1 h2 h3
  exact loop_X _ _ _ _ (by intro r;first | (simp;done) | (rcases r with r | r <;> simp;done) | (rcases r with r | r | r <;> simp;done) | (rcases r with r | r | r | r <;> simp)) (fun s=>g23l1_b_eq  ((y3,y4)) s.1 s.2.1 s.2.2.1 s.2.2.2.1 s.2.2.2.2) (y0,y1,y2,y5,y6)
def spec_DrawResizeSpace (a_code:List Bt):Option ((List Int×List Int)×List Int):=(spec_l00From a_code).bind fun r1=>(spec_l05BentSpace_o9d r1.1 r1.2.1 r1.2.2).bind fun r2=>(spec_l00Own r2.2.2.2.1).bind fun r3=>(spec_DrawResizeSpace_l1 r2.2.2.2 ((r2.1,r2.2.1,r2.2.2.1,r3,0))).bind fun r13=>(spec_l00Src_one_o30 r13.1 r13.2.1 r13.2.2.1 8).bind fun r14=>if r14.2.2.2=true then (spec_l05Bent_o9d r14.1 r14.2.1 r14.2.2.1).bind fun r15=>some (r13.2.2.2.1,r15.2.2.2) else some (r13.2.2.2.1,r13.2.2.2.2)
@[simp] def g23_O:((List Int×List Int)×List Int)→TV×List Blk:=fun r=>((.tup [(.agg [(ow 1 r.1.1.length),(ow 2 r.1.2.length)]),(ow 3 r.2.length)]),[(.live 2 [[(ow 1 r.1.1.length),(ow 2 r.1.2.length)]]),(ob 1 r.1.1),(ob 1 r.1.2),(ob 1 r.2)])
def g23_E (a:List Bt):List TV:=[(.vs (rows a))]
theorem g23_run (a_code:List Bt) :callFn (X g23_S) g23_tf (g23_E a_code) []=(spec_DrawResizeSpace a_code).map g23_O:=by
  rw [callFn_eq]
  simp (maxSteps:=2000000) (maxDischargeDepth:=8) -implicitDefEqProofs [g23_tf,spec_DrawResizeSpace,g23_E] <;> (try simp only [map_to_bind,some_elim,g23_O])
def g23_r:Rule:=RlO g23_E (fun a=>spec_DrawResizeSpace a) g23_O
theorem g23_ok:RuleOk Tryz.prog 14 g23_r:=ok_rlo (S:=g23_S) (tf:=g23_tf) (SysOk.on ⟨g53_ok,g61_ok,trivial⟩ ⟨g17_ok,g25_ok,g19_ok,g37_ok,trivial⟩) (trE_ok (ks:=[[2,4,5,6,7]]) Tryz.func14 (by kernel_rfl)) fun a=>g23_run a
@[simp] theorem g23_app (y0):g23_r [(.vs (rows y0))]=(spec_DrawResizeSpace y0).map g23_O :=
  RlO_app (enc:=g23_E) (by intro a b h;simp [g23_E,Prod.ext_iff] at h ⊢;simp [h]) y0
/-! (impl.Space).resizable -/
def g24l1_cb:TC:=(sq [bn 16 .lss (.t 15) (.t 14)] [2,13,14,15,16] (.seq (.cond (.t 16) .skip (.keep (kp [] [] 0) (.exit 0))) (.trim [2,13,14,15] (.seq (.block 1 (sq [mo 17 15,ia 18 1 13 15,ld 19 18,mo 5 17,mo 6 19] [2,5,6,13,14,15] (sq [fa 20 1 2,ld 21 20,mo 22 5,ia 23 1 21 22,ld 24 23,bn 25 .neq (.t 24) (ki (-1)),mo 26 25,⟨(some 27),(some (26,true)),(.mv (.t 6))⟩,⟨(some 28),(some (26,true)),(.faddr 1 (.t 2))⟩,⟨(some 29),(some (26,true)),(.load none (.t 28))⟩,⟨(some 30),(some (26,true)),(.mv (.t 5))⟩,⟨(some 31),(some (26,true)),(.iaddr 1 (.t 29) (.t 30))⟩,⟨(some 32),(some (26,true)),(.load none (.t 31))⟩,⟨(some 33),(some (26,true)),(.bin .num .gtr (.t 27) (.t 32))⟩,pk 34 (.t 26) (.t 33) (kb false)] [2,13,14,15,34] (.cond (.t 34) (.seq (.ops [mk 4 (kb false)]) (.keep (kp [(4,0)] [] 0) .ret)) (.keep (kp [(2,0),(13,0),(14,0),(15,0)] [(0,0)] 0) .skip))))) (.trim [2,13,14,15] (.after (.ops [bn 35 .add (.t 15) (ki 1),mo 15 35]) (kp [(2,0),(13,0),(14,0),(15,0)] [(0,0)] 0)))))))
def g24l1_c:TC:=.loop [2,13,14,15] g24l1_cb
def g24_tf:TFn:=⟨(sq [bx 2 0,mk 4 (kb false)] [1,2] (.seq (sq [mo 7 1,le 8 7,fa 9 0 2,ld 10 9,le 11 10,bn 12 .neq (.t 8) (.t 11)] [1,2,12] (.cond (.t 12) (.seq (.ops [mk 4 (kb false)]) (.keep (kp [(4,0)] [] 0) .ret)) .skip)) (.trim [1,2] (.seq (sq [mo 13 1,le 14 13,mk 15 (ki 0)] [2,13,14,15] (.block 0 (.keep (kp [(2,0),(13,0),(14,0),(15,0)] [(0,0)] 0) g24l1_c))) (.trim [] (.seq (.ops [mk 4 (kb true)]) (.keep (kp [(4,0)] [] 0) .ret))))))),[.t 4]⟩
abbrev g24_S:=Sys.on [] []
@[reducible,simp] def g24l1_F:((Unit) ⊕ (Bool))→Out:=(Sum.elim (fun t=>(.ext 0,[],[])) (fun t=>(.ret,[(4,(.bool t))],[])))
def impl_Space_resizable_l1_b (v1:List Int×List Int) (v2:List Int) (v3:Int) (v4:Int):Option ((Int) ⊕ ((Unit) ⊕ (Bool))):=if v4 < v3 then if 0≤v4 then (v2[(v4).toNat]?).bind fun x5=>if 0≤v4 then (v1.2[(v4).toNat]?).bind fun x6=>if ¬(x6=(-1)) then if 0≤v4 then (v1.2[(v4).toNat]?).bind fun x7=>if x5 > x7 then some (.inr (.inr false)) else some (.inl ((IntKind.i64.wrap (v4+1)))) else none else some (.inl ((IntKind.i64.wrap (v4+1)))) else none else none else some (.inr (.inl ()))
theorem g24l1_b_eq  (v1:List Int×List Int) (v2:List Int) (v3:Int) (v4:Int):X g24_S g24l1_cb (keepEnv [2,13,14,15] [(2,(.ptr 0 0 0)),(13,(.vs (rows v2))),(14,(.int .i64 v3)),(15,(.int .i64 v4))]) [(.live 2 [[(.vs (rows v1.1)),(.vs (rows v1.2))]])]=(impl_Space_resizable_l1_b v1 v2 v3 v4).map (Sum.elim (fun s=>(TX.nrm,[(2,(.ptr 0 0 0)),(13,(.vs (rows v2))),(14,(.int .i64 v3)),(15,(.int .i64 s))],[(.live 2 [[(.vs (rows v1.1)),(.vs (rows v1.2))]])])) g24l1_F):=by
  simp (maxSteps:=2000000) (maxDischargeDepth:=8) -implicitDefEqProofs [g24l1_cb,impl_Space_resizable_l1_b] <;> (try simp only [map_to_bind,some_elim,g24l1_F])
def impl_Space_resizable_l1 (v1:List Int×List Int) (v2:List Int) (v3:Int) (s:Int):Option ((Unit) ⊕ (Bool)):=loopO (fun s=>impl_Space_resizable_l1_b v1 v2 v3 s) s
@[simp] theorem g24l1_eq (y0 y1 y2 y3 y4):X g24_S g24l1_c [(2,(.ptr 0 0 0)),(13,(.vs (rows y2))),(14,(.int .i64 y3)),(15,(.int .i64 y4))] [(.live 2 [[(.vs (rows y0)),(.vs (rows y1))]])]=(impl_Space_resizable_l1 ((y0,y1)) y2 y3 y4).map g24l1_F:=by
  exact loop_X _ _ _ _ (by intro r;first | (simp;done) | (rcases r with r | r <;> simp;done) | (rcases r with r | r | r <;> simp;done) | (rcases r with r | r | r | r <;> simp)) (fun s=>g24l1_b_eq  ((y0,y1)) y2 y3 s) y4
def impl_Space_resizable (a_s:List Int×List Int) (a_dims:List Int):Option (Bool):=if ¬((a_dims.length:Int)=(a_s.1.length:Int)) then some false else (impl_Space_resizable_l1 a_s a_dims ((a_dims.length:Int)) 0).bind fun r8=>Sum.elim (fun u9=>some true) (fun u10=>some u10) r8
@[simp] def g24_O:Bool→TV×List Blk:=fun r=>((.bool r),[])
def g24_E (a:(List Int×List Int)×List Int):List TV:=[(.agg [(.vs (rows a.1.1)),(.vs (rows a.1.2))]),(.vs (rows a.2))]
theorem g24_run (a_s:List Int×List Int) (a_dims:List Int) :callFn (X g24_S) g24_tf (g24_E (a_s,a_dims)) []=(impl_Space_resizable a_s a_dims).map g24_O:=by
  rw [callFn_eq]
  simp (maxSteps:=2000000) (maxDischargeDepth:=8) -implicitDefEqProofs [g24_tf,impl_Space_resizable,g24_E] <;> (try simp only [map_to_bind,some_elim,g24_O])
def g24_r:Rule:=RlO g24_E (fun a=>impl_Space_resizable a.1 a.2) g24_O
theorem g24_ok:RuleOk Tryz.prog 51 g24_r:=ok_rlo (S:=g24_S) (tf:=g24_tf) (SysOk.on trivial trivial) (trE_ok (ks:=[[2,13,14,15]]) Tryz.func51 (by kernel_rfl)) fun a=>g24_run a.1 a.2
@[simp] theorem g24_app (y0 y1 y2):g24_r [(.agg [(.vs (rows y0)),(.vs (rows y1))]),(.vs (rows y2))]=(impl_Space_resizable ((y0,y1)) y2).map g24_O :=
  RlO_app (enc:=g24_E) (by intro a b h;simp [g24_E,Prod.ext_iff] at h ⊢;simp [h]) ((y0,y1),y2)
/-! slices.Clone[[]int64,int64] -/
theorem g4_fn:FnOk Tryz.prog 52 (cloneTF 2 [(.int .i64 0)] 1 8):=trF_ok (ks:=[]) Tryz.func52 (by kernel_rfl)
noncomputable def slices_Clone_int64_int64_ (l:List (Int)):Option (List (Int)):=appL 8 [] l
noncomputable def g4_r:Rule:=RlO (fun (l:List (Int))=>[TV.vs (rows l)]) (fun l=>slices_Clone_int64_int64_ l) (fun r=>(ow 0 r.length,[ob 1 r]))
theorem g4_ok:RuleOk Tryz.prog 52 g4_r:=clone_ok rfl g4_fn
@[simp] theorem g4_app (y0):g4_r [TV.vs (rows y0)]=(slices_Clone_int64_int64_ y0).map (fun r=>(ow 0 r.length,[ob 1 r])):=RlO_app (enc:=fun (y0:List (Int))=>[TV.vs (rows y0)]) (g:=fun y0=>slices_Clone_int64_int64_ y0) (by intro a b h;simpa using h) y0
/-! impl.ResizeSpace -/
def g38_tf:TFn:=⟨(sq [bx 2 0,oo 4 (.alloc [.nils,.nils]),mk 5 (ki 0)] [1,2,4] (.seq (.block 0 (sq [ln 7 2 2,ca 8 39 [.t 7],nt 9 8,mo 10 9,⟨(some 11),(some (10,false)),(.mv (.t 1))⟩,⟨(some 12),(some (10,false)),(.call 50 [.t 11])⟩,⟨(some 13),(some (10,false)),(.un .not (.t 12))⟩,pk 14 (.t 10) (kb true) (.t 13),mo 6 14] [1,2,4,6] (.cond (.t 6) (.seq (.ops [oo 15 (.build [.nils,.nils] []),⟨none,none,(.store 2 (.t 4) (.t 15))⟩,mk 5 (ki 1)]) (.keep (kp [(4,0),(5,0)] [(1,2),(1000,1),(1001,1)] 0) .ret)) (sq [ln 17 2 2,mo 18 1,ca 19 51 [.t 17,.t 18],nt 20 19,mo 16 20] [1,2,4,16] (.cond (.t 16) (.seq (.ops [oo 21 (.build [.nils,.nils] []),⟨none,none,(.store 2 (.t 4) (.t 21))⟩,mk 5 (ki 2)]) (.keep (kp [(4,0),(5,0)] [(1,2),(1000,1),(1001,1)] 0) .ret)) .skip))))) (.trim [1,2,4] (.seq (.draw [([],mo 22 1),([0],ca 23 52 [.t 22]),([],fa 24 1 2),([2],ld 25 24)] [ca 26 52 [.t 25],oo 27 (.build [.nils,.nils] [(0,1,(.t 23)),(1,1,(.t 26))]),⟨none,none,(.store 2 (.t 4) (.t 27))⟩,mk 5 (ki 0)]) (.keep (kp [(4,0),(5,0)] [(1,2),(2,1),(3,1)] 0) .ret))))),[.cell 4 (some 2),.t 5]⟩
abbrev g38_S:=Sys.on [(39,g41_r),(50,g45_r),(51,g24_r),(52,g4_r)] []
def impl_ResizeSpace (a_s:List Int×List Int) (a_dims:List Int):Option ((List Int×List Int)×Int):=(impl_ValidSpace a_s).bind fun r1=>if ¬(r1=true) then some ((([]:List Int),([]:List Int)),1) else (impl_ValidDims a_dims).bind fun r2=>if ¬(r2=true) then some ((([]:List Int),([]:List Int)),1) else (impl_Space_resizable a_s a_dims).bind fun r3=>if ¬(r3=true) then some ((([]:List Int),([]:List Int)),2) else (slices_Clone_int64_int64_ a_dims).bind fun r4=>(slices_Clone_int64_int64_ a_s.2).bind fun r5=>some ((r4,r5),0)
@[simp] def g38_O:((List Int×List Int)×Int)→TV×List Blk:=fun r=>((.tup [(.agg [(ow 1 r.1.1.length),(ow 2 r.1.2.length)]),(.int .i64 r.2)]),[(.live 2 [[(ow 1 r.1.1.length),(ow 2 r.1.2.length)]]),(ob 1 r.1.1),(ob 1 r.1.2)])
def g38_E (a:(List Int×List Int)×List Int):List TV:=[(.agg [(.vs (rows a.1.1)),(.vs (rows a.1.2))]),(.vs (rows a.2))]
theorem g38_run (a_s:List Int×List Int) (a_dims:List Int) :callFn (X g38_S) g38_tf (g38_E (a_s,a_dims)) []=(impl_ResizeSpace a_s a_dims).map g38_O:=by
  rw [callFn_eq]
  simp (maxSteps:=2000000) (maxDischargeDepth:=8) -implicitDefEqProofs [g38_tf,impl_ResizeSpace,g38_E] <;> (try simp only [map_to_bind,some_elim,g38_O])
def g38_r:Rule:=RlO g38_E (fun a=>impl_ResizeSpace a.1 a.2) g38_O
theorem g38_ok:RuleOk Tryz.prog 15 g38_r:=ok_rlo (S:=g38_S) (tf:=g38_tf) (SysOk.on ⟨g41_ok,g45_ok,g24_ok,g4_ok,trivial⟩ trivial) (trE_ok (ks:=[[4]]) Tryz.func15 (by kernel_rfl)) fun a=>g38_run a.1 a.2
@[simp] theorem g38_app (y0 y1 y2):g38_r [(.agg [(.vs (rows y0)),(.vs (rows y1))]),(.vs (rows y2))]=(impl_ResizeSpace ((y0,y1)) y2).map g38_O :=
  RlO_app (enc:=g38_E) (by intro a b h;simp [g38_E,Prod.ext_iff] at h ⊢;simp [h]) ((y0,y1),y2)
/-! spec.ResizeSpace -/
def g39_tf:TFn:=⟨(sq [bx 2 0,oo 4 (.alloc [.nils,.nils]),mk 5 (ki 0)] [1,2,4] (.seq (sq [ln 7 2 2,ca 8 41 [.t 7],nt 9 8,mo 10 9,⟨(some 11),(some (10,false)),(.mv (.t 1))⟩,⟨(some 12),(some (10,false)),(.call 53 [.t 11])⟩,⟨(some 13),(some (10,false)),(.un .not (.t 12))⟩,pk 14 (.t 10) (kb true) (.t 13)] [1,2,4,14] (.cond (.t 14) (.seq (.ops [oo 15 (.build [.nils,.nils] []),⟨none,none,(.store 2 (.t 4) (.t 15))⟩,mk 5 (ki 1)]) (.keep (kp [(4,0),(5,0)] [(1,2),(1000,1),(1001,1)] 0) .ret)) .skip)) (.trim [1,2,4] (.seq (.draw [([],mo 16 1),([0],ca 17 47 [.t 16]),([],fa 18 1 2),([2],ld 19 18),([0,1,2,3],ca 20 47 [.t 19]),([0,1,2,3,4],oo 21 (.build [.nils,.nils] [(0,1,(.t 17)),(1,1,(.t 20))])),([],oo 6 (.alloc [.nils,.nils]))] [⟨none,none,(.store 2 (.t 6) (.t 21))⟩]) (.trim [4,6] (.seq (sq [ln 22 2 6,ca 23 41 [.t 22],nt 24 23] [4,6,24] (.cond (.t 24) (.seq (.ops [oo 25 (.build [.nils,.nils] []),⟨none,none,(.store 2 (.t 4) (.t 25))⟩,mk 5 (ki 2)]) (.keep (kp [(4,0),(5,0)] [(1,2),(1000,1),(1001,1)] 0) .ret)) .skip)) (.trim [4,6] (.seq (.ops [ln 26 2 6,⟨none,none,(.store 2 (.t 4) (.t 26))⟩,mk 5 (ki 0)]) (.keep (kp [(4,0),(5,0)] [(1,2),(2,1),(3,1)] 0) .ret))))))))),[.cell 4 (some 2),.t 5]⟩
abbrev g39_S:=Sys.on [(41,g50_r),(53,g54_r),(47,g61_r)] []
def spec_ResizeSpace (a_s:List Int×List Int) (a_dims:List Int):Option ((List Int×List Int)×Int):=(spec_l05Space a_s).bind fun r1=>if ¬(r1=true) then some ((([]:List Int),([]:List Int)),1) else (spec_l05Dims a_dims).bind fun r2=>if ¬(r2=true) then some ((([]:List Int),([]:List Int)),1) else (spec_l00Own a_dims).bind fun r3=>(spec_l00Own a_s.2).bind fun r4=>(spec_l05Space ((r3,r4))).bind fun r5=>if ¬(r5=true) then some ((([]:List Int),([]:List Int)),2) else some ((r3,r4),0)
@[simp] def g39_O:((List Int×List Int)×Int)→TV×List Blk:=fun r=>((.tup [(.agg [(ow 1 r.1.1.length),(ow 2 r.1.2.length)]),(.int .i64 r.2)]),[(.live 2 [[(ow 1 r.1.1.length),(ow 2 r.1.2.length)]]),(ob 1 r.1.1),(ob 1 r.1.2)])
def g39_E (a:(List Int×List Int)×List Int):List TV:=[(.agg [(.vs (rows a.1.1)),(.vs (rows a.1.2))]),(.vs (rows a.2))]
theorem g39_run (a_s:List Int×List Int) (a_dims:List Int) :callFn (X g39_S) g39_tf (g39_E (a_s,a_dims)) []=(spec_ResizeSpace a_s a_dims).map g39_O:=by
  rw [callFn_eq]
  simp (maxSteps:=2000000) (maxDischargeDepth:=8) -implicitDefEqProofs [g39_tf,spec_ResizeSpace,g39_E] <;> (try simp only [map_to_bind,some_elim,g39_O])
def g39_r:Rule:=RlO g39_E (fun a=>spec_ResizeSpace a.1 a.2) g39_O
theorem g39_ok:RuleOk Tryz.prog 16 g39_r:=ok_rlo (S:=g39_S) (tf:=g39_tf) (SysOk.on ⟨g50_ok,g54_ok,g61_ok,trivial⟩ trivial) (trE_ok (ks:=[[7]]) Tryz.func16 (by kernel_rfl)) fun a=>g39_run a.1 a.2
@[simp] theorem g39_app (y0 y1 y2):g39_r [(.agg [(.vs (rows y0)),(.vs (rows y1))]),(.vs (rows y2))]=(spec_ResizeSpace ((y0,y1)) y2).map g39_O :=
  RlO_app (enc:=g39_E) (by intro a b h;simp [g39_E,Prod.ext_iff] at h ⊢;simp [h]) ((y0,y1),y2)
/-! laws.d8Same -/
def g62l1_cb:TC:=(.seq (sq [mo 11 5,mo 12 0,le 13 12,bn 14 .lss (.t 11) (.t 13)] [0,1,5,14] (.cond (.t 14) .skip (.keep (kp [] [] 0) (.exit 0)))) (.trim [0,1,5] (.seq (.block 1 (.seq (.draw [([],mo 17 0),([],mo 18 5),([0,1],ia 19 1 17 18),([0,1,2],ld 20 19),([],mo 21 1),([],mo 22 5),([4,5],ia 23 1 21 22),([4,5,6],ld 24 23)] [bn 25 .neq (.t 20) (.t 24)]) (.trim [0,1,5,25] (.cond (.t 25) (.seq (.ops [mk 4 (kb false)]) (.keep (kp [(4,0)] [] 0) .ret)) .skip)))) (.trim [0,1,5] (.after (.ops [mo 15 5,bn 16 .add (.t 15) (ki 1),mo 5 16]) (kp [(0,0),(1,0),(5,0)] [] 0))))))
def g62l1_c:TC:=.loop [0,1,5] g62l1_cb
def g62_tf:TFn:=⟨(sq [mk 4 (kb false)] [0,1] (.seq (sq [mo 6 0,le 7 6,mo 8 1,le 9 8,bn 10 .neq (.t 7) (.t 9)] [0,1,10] (.cond (.t 10) (.seq (.ops [mk 4 (kb false)]) (.keep (kp [(4,0)] [] 0) .ret)) .skip)) (.trim [0,1] (.seq (sq [mk 5 (ki 0)] [0,1,5] (.block 0 (.keep (kp [(0,0),(1,0),(5,0)] [] 0) g62l1_c))) (.trim [] (.seq (.ops [mk 4 (kb true)]) (.keep (kp [(4,0)] [] 0) .ret))))))),[.t 4]⟩
abbrev g62_S:=Sys.on [] []
@[reducible,simp] def g62l1_F:((Unit) ⊕ (Bool))→Out:=(Sum.elim (fun t=>(.ext 0,[],[])) (fun t=>(.ret,[(4,(.bool t))],[])))
def laws_d8Same_l1_b (v1:List Int) (v2:List Int) (v3:Int):Option ((Int) ⊕ ((Unit) ⊕ (Bool))):=if v3 < (v1.length:Int) then if 0≤v3 then (v1[(v3).toNat]?).bind fun x4=>if 0≤v3 then (v2[(v3).toNat]?).bind fun x5=>if ¬(x4=x5) then some (.inr (.inr false)) else some (.inl ((IntKind.i64.wrap (v3+1)))) else none else none else some (.inr (.inl ()))
theorem g62l1_b_eq  (v1:List Int) (v2:List Int) (v3:Int):X g62_S g62l1_cb (keepEnv [0,1,5] [(0,(.vs (rows v1))),(1,(.vs (rows v2))),(5,(.int .i64 v3))]) []=(laws_d8Same_l1_b v1 v2 v3).map (Sum.elim (fun s=>(TX.nrm,[(0,(.vs (rows v1))),(1,(.vs (rows v2))),(5,(.int .i64 s))],[])) g62l1_F):=by
  simp (maxSteps:=2000000) (maxDischargeDepth:=8) -implicitDefEqProofs [g62l1_cb,laws_d8Same_l1_b] <;> (try simp only [map_to_bind,some_elim,g62l1_F])
def laws_d8Same_l1 (v1:List Int) (v2:List Int) (s:Int):Option ((Unit) ⊕ (Bool)):=loopO (fun s=>laws_d8Same_l1_b v1 v2 s) s
@[simp] theorem g62l1_eq (y0 y1 y2):X g62_S g62l1_c [(0,(.vs (rows y0))),(1,(.vs (rows y1))),(5,(.int .i64 y2))] []=(laws_d8Same_l1 y0 y1 y2).map g62l1_F:=by
  exact loop_X _ _ _ _ (by intro r;first | (simp;done) | (rcases r with r | r <;> simp;done) | (rcases r with r | r | r <;> simp;done) | (rcases r with r | r | r | r <;> simp)) (fun s=>g62l1_b_eq  y0 y1 s) y2
def laws_d8Same (a_a:List Int) (a_b:List Int):Option (Bool):=if ¬((a_a.length:Int)=(a_b.length:Int)) then some false else (laws_d8Same_l1 a_a a_b 0).bind fun r6=>Sum.elim (fun u7=>some true) (fun u8=>some u8) r6
@[simp] def g62_O:Bool→TV×List Blk:=fun r=>((.bool r),[])
def g62_E (a:List Int×List Int):List TV:=[(.vs (rows a.1)),(.vs (rows a.2))]
theorem g62_run (a_a:List Int) (a_b:List Int) :callFn (X g62_S) g62_tf (g62_E (a_a,a_b)) []=(laws_d8Same a_a a_b).map g62_O:=by
  rw [callFn_eq]
  simp (maxSteps:=2000000) (maxDischargeDepth:=8) -implicitDefEqProofs [g62_tf,laws_d8Same,g62_E] <;> (try simp only [map_to_bind,some_elim,g62_O])
def g62_r:Rule:=RlO g62_E (fun a=>laws_d8Same a.1 a.2) g62_O
theorem g62_ok:RuleOk Tryz.prog 17 g62_r:=ok_rlo (S:=g62_S) (tf:=g62_tf) (SysOk.on trivial trivial) (trE_ok (ks:=[[0,1,5],[8]]) Tryz.func17 (by kernel_rfl)) fun a=>g62_run a.1 a.2
@[simp] theorem g62_app (y0 y1):g62_r [(.vs (rows y0)),(.vs (rows y1))]=(laws_d8Same y0 y1).map g62_O :=
  RlO_app (enc:=g62_E) (by intro a b h;simp [g62_E,Prod.ext_iff] at h ⊢;simp [h]) (y0,y1)
/-! laws.FnSpacesRead -/
def g31p2_c:TC:=(sq [mo 64 1,ca 65 14 [.t 64],mo 63 65,oo 66 (.ext (.t 63) 0),oo 67 (.ext (.t 63) 1),oo 11 (.alloc [.nils,.nils]),⟨none,none,(.store 2 (.t 11) (.t 66))⟩,mo 12 67] [11,12] (sq [ln 69 2 11,mo 70 12,ca 71 15 [.t 69,.t 70],mo 68 71,oo 72 (.ext (.t 68) 0),oo 73 (.ext (.t 68) 1),oo 13 (.alloc [.nils,.nils]),⟨none,none,(.store 2 (.t 13) (.t 72))⟩,mo 14 73] [11,12,13,14] (.seq (sq [mo 74 14,bn 75 .neq (.t 74) (ki 0)] [11,12,13,14,75] (.cond (.t 75) (sq [ln 77 2 11,mo 78 12,ca 79 16 [.t 77,.t 78],mo 76 79,oo 80 (.ext (.t 76) 0),oo 81 (.ext (.t 76) 1),oo 15 (.alloc [.nils,.nils]),⟨none,none,(.store 2 (.t 15) (.t 80))⟩,mo 16 81] [14,16] (.seq (.ops [mo 82 14,mo 83 16,bn 84 .eql (.t 82) (.t 83),mo 4 84]) (.keep (kp [(4,0)] [] 0) .ret))) .skip)) (.trim [11,12,13] (.seq (.after (.ops [ln 85 2 13,ca 86 10 [.t 85],mo 87 86,⟨(some 88),(some (87,true)),(.faddr 0 (.t 13))⟩,⟨(some 89),(some (87,true)),(.load none (.t 88))⟩,⟨(some 90),(some (87,true)),(.mv (.t 12))⟩,⟨(some 91),(some (87,true)),(.call 17 [.t 89,.t 90])⟩,pk 92 (.t 87) (.t 91) (kb false),mo 93 92,⟨(some 94),(some (93,true)),(.faddr 1 (.t 13))⟩,⟨(some 95),(some (93,true)),(.load none (.t 94))⟩,⟨(some 96),(some (93,true)),(.faddr 1 (.t 11))⟩,⟨(some 97),(some (93,true)),(.load none (.t 96))⟩,⟨(some 98),(some (93,true)),(.call 17 [.t 95,.t 97])⟩,pk 99 (.t 93) (.t 98) (kb false),mo 4 99]) (kp [(4,0)] [] 0)) (.keep (kp [(4,0)] [] 0) .ret))))))
def g31p1_c:TC:=(sq [mo 44 0,ca 45 11 [.t 44],mo 8 45] [1,8] (sq [mo 47 8,ca 48 12 [.t 47],mo 46 48,oo 49 (.ext (.t 46) 0),oo 50 (.ext (.t 46) 1),oo 9 (.alloc [.nils,.nils]),⟨none,none,(.store 2 (.t 9) (.t 49))⟩,mo 10 50] [1,8,9,10] (.seq (sq [mo 51 10,mo 52 51,⟨(some 53),(some (52,true)),(.load (some 2) (.t 9))⟩,⟨(some 54),(some (52,true)),(.call 13 [.t 53])⟩,⟨(some 55),(some (52,true)),(.mv (.t 8))⟩,⟨(some 56),(some (52,true)),(.bin .str .neq (.t 54) (.t 55))⟩,⟨(some 57),(some (52,true)),(.mv (.t 56))⟩,⟨(some 58),(some (57,false)),(.load (some 2) (.t 9))⟩,⟨(some 59),(some (57,false)),(.call 10 [.t 58])⟩,⟨(some 60),(some (57,false)),(.un .not (.t 59))⟩,⟨(some 61),(some (52,true)),(.pick (.t 57) (kb true) (.t 60))⟩,pk 62 (.t 52) (.t 61) (kb false)] [1,62] (.cond (.t 62) (.seq (.ops [mk 4 (kb false)]) (.keep (kp [(4,0)] [] 0) .ret)) (.keep (kp [(1,0)] [] 0) .skip))) (.trim [1] g31p2_c))))
def g31_tf:TFn:=⟨(sq [mk 4 (kb false)] [0,1] (.seq (sq [mo 17 0,le 18 17,bn 19 .gtr (.t 18) (ki 1048576),mo 20 19,⟨(some 21),(some (20,false)),(.mv (.t 1))⟩,⟨(some 22),(some (20,false)),(.len false (.t 21))⟩,⟨(some 23),(some (20,false)),(.bin .num .gtr (.t 22) (ki 1048576))⟩,pk 24 (.t 20) (kb true) (.t 23)] [0,1,24] (.cond (.t 24) (.seq (.ops [mk 4 (kb true)]) (.keep (kp [(4,0)] [] 0) .ret)) .skip)) (.trim [0,1] (sq [mo 25 0,ca 26 7 [.t 25],mo 5 26] [0,1,5] (sq [mo 28 5,ca 29 8 [.t 28],mo 27 29,oo 30 (.ext (.t 27) 0),oo 31 (.ext (.t 27) 1),oo 6 (.alloc [.nils,.nils]),⟨none,none,(.store 2 (.t 6) (.t 30))⟩,mo 7 31] [0,1,5,6,7] (.seq (sq [mo 32 7,mo 33 32,⟨(some 34),(some (33,true)),(.load (some 2) (.t 6))⟩,⟨(some 35),(some (33,true)),(.call 9 [.t 34])⟩,⟨(some 36),(some (33,true)),(.mv (.t 5))⟩,⟨(some 37),(some (33,true)),(.bin .str .neq (.t 35) (.t 36))⟩,⟨(some 38),(some (33,true)),(.mv (.t 37))⟩,⟨(some 39),(some (38,false)),(.load (some 2) (.t 6))⟩,⟨(some 40),(some (38,false)),(.call 10 [.t 39])⟩,⟨(some 41),(some (38,false)),(.un .not (.t 40))⟩,⟨(some 42),(some (33,true)),(.pick (.t 38) (kb true) (.t 41))⟩,pk 43 (.t 33) (.t 42) (kb false)] [0,1,43] (.cond (.t 43) (.seq (.ops [mk 4 (kb false)]) (.keep (kp [(4,0)] [] 0) .ret)) (.keep (kp [(0,0),(1,0)] [] 0) .skip))) (.trim [0,1] g31p1_c))))))),[.t 4]⟩
abbrev g31_S:=Sys.on [(7,g21_r),(8,g34_r),(9,g35_r),(10,g42_r),(11,g26_r),(12,g48_r),(13,g49_r),(14,g23_r),(15,g38_r),(16,g39_r),(17,g62_r)] []
@[reducible,simp] def g31p2_F:Bool→Out:=(fun t=>(.ret,[(4,(.bool t))],[]))
def laws_FnSpacesRead_p2 (v11:List Bt):Option (Bool):=(spec_DrawResizeSpace v11).bind fun r12=>(impl_ResizeSpace r12.1 r12.2).bind fun r13=>if ¬(r13.2=0) then (spec_ResizeSpace r12.1 r12.2).bind fun r14=>some (((decide (r13.2=r14.2)))) else (spec_ValidSpace r13.1).bind fun r15=>if r15=true then (laws_d8Same r13.1.1 r12.2).bind fun r16=>if r16=true then (laws_d8Same r13.1.2 r12.1.2).bind fun r17=>some r17 else some false else some false
@[simp] theorem g31p2_eq (y0):X g31_S g31p2_c [(1,(.vs (rows y0)))] []=(laws_FnSpacesRead_p2 y0).map g31p2_F:=by
  simp (maxSteps:=2000000) (maxDischargeDepth:=8) -implicitDefEqProofs [g31p2_c,laws_FnSpacesRead_p2] <;> (try simp only [map_to_bind,some_elim,g31p2_F])
@[reducible,simp] def g31p1_F:Bool→Out:=(fun t=>(.ret,[(4,(.bool t))],[]))
def laws_FnSpacesRead_p1 (v5:List Bt) (v6:List Bt):Option (Bool):=(spec_DrawReadSpace v5).bind fun r7=>(impl_ReadSpace r7).bind fun r8=>if r8.2=true then (impl_SpaceText r8.1).bind fun r9=>if ¬(r9=r7) then some false else (spec_ValidSpace r8.1).bind fun r10=>if ¬(r10=true) then some false else (laws_FnSpacesRead_p2 v6).bind fun r18=>some r18 else (laws_FnSpacesRead_p2 v6).bind fun r19=>some r19
@[simp] theorem g31p1_eq (y0 y1):X g31_S g31p1_c [(0,(.vs (rows y0))),(1,(.vs (rows y1)))] []=(laws_FnSpacesRead_p1 y0 y1).map g31p1_F:=by
  simp (maxSteps:=2000000) (maxDischargeDepth:=8) -implicitDefEqProofs [g31p1_c,laws_FnSpacesRead_p1] <;> (try simp only [map_to_bind,some_elim,g31p1_F])
def laws_FnSpacesRead (a_code:List Bt) (a_more:List Bt):Option (Bool):=if (a_code.length:Int) > 1048576 then some true else if (a_more.length:Int) > 1048576 then some true else (spec_DrawDecodeSpace a_code).bind fun r1=>(impl_DecodeSpace r1).bind fun r2=>if r2.2=true then (impl_EncodeSpace r2.1).bind fun r3=>if ¬(r3=r1) then some false else (spec_ValidSpace r2.1).bind fun r4=>if ¬(r4=true) then some false else (laws_FnSpacesRead_p1 a_code a_more).bind fun r20=>some r20 else (laws_FnSpacesRead_p1 a_code a_more).bind fun r21=>some r21
@[simp] def g31_O:Bool→TV×List Blk:=fun r=>((.bool r),[])
def g31_E (a:List Bt×List Bt):List TV:=[(.vs (rows a.1)),(.vs (rows a.2))]
theorem g31_run (a_code:List Bt) (a_more:List Bt) :callFn (X g31_S) g31_tf (g31_E (a_code,a_more)) []=(laws_FnSpacesRead a_code a_more).map g31_O:=by
  rw [callFn_eq]
  simp (maxSteps:=2000000) (maxDischargeDepth:=8) -implicitDefEqProofs [g31_tf,laws_FnSpacesRead,g31_E] <;> (try simp only [map_to_bind,some_elim,g31_O])
def laws_FnSpacesRead_r:Rule:=RlO g31_E (fun a=>laws_FnSpacesRead a.1 a.2) g31_O
theorem laws_FnSpacesRead_ok:RuleOk Tryz.prog 3 laws_FnSpacesRead_r:=ok_rlo (S:=g31_S) (tf:=g31_tf) (SysOk.on ⟨g21_ok,g34_ok,g35_ok,g42_ok,g26_ok,g48_ok,g49_ok,g23_ok,g38_ok,g39_ok,g62_ok,trivial⟩ trivial) (trE_ok (ks:=[]) Tryz.func3 (by kernel_rfl)) fun a=>g31_run a.1 a.2
@[simp] theorem laws_FnSpacesRead_app (y0 y1):laws_FnSpacesRead_r [(.vs (rows y0)),(.vs (rows y1))]=(laws_FnSpacesRead y0 y1).map g31_O :=
  RlO_app (enc:=g31_E) (by intro a b h;simp [g31_E,Prod.ext_iff] at h ⊢;simp [h]) (y0,y1)
end
end Go.Proofs.TM
