/- Functions of the program, as functions of their data: written by program. -/
import Derived.Test.YtlajjnljeebkkaaGreatDoorFS1
namespace Go.Proofs.TM
open Go Go.Proofs
set_option linter.unusedVariables false
set_option linter.unusedSimpArgs false
set_option maxHeartbeats 1000000
attribute [-simp] Option.map_bind strV_some
attribute [simp] guardOn_bool sA_bslice Function.comp_def
noncomputable section
/-! impl.readDecimal -/
noncomputable def impl_readDecimal (s:Str):Option (Int×Bool):=rdecS s
noncomputable def impl_readDecimal_r:Rule:=rdec_r
@[simp] theorem impl_readDecimal_app (y0):impl_readDecimal_r [.str y0]=(impl_readDecimal y0).map (fun r=>(.tup [.int .i64 r.1,.bool r.2],[])):=rdecS_app y0
/-! (*impl.scanner).number -/
def g8_tf:TFn:=⟨(sq [mk 2 (ki 0)] [0] (sq [mo 6 0,oo 7 (.callM 56 0 [0] [.t 6,(.c (.fn 57 [] []))]),ca 8 55 [.t 7],mo 5 8,oo 9 (.ext (.t 5) 0),oo 10 (.ext (.t 5) 1),mo 3 9,mo 4 10] [0,3,4] (.seq (sq [mo 11 4,nt 12 11] [0,3,12] (.cond (.t 12) (.after (.ops [mo 13 0,nk 14 13,fa 15 1 14,⟨none,none,(.store 1 (.t 15) (kb true))⟩]) (kp [(3,0)] [(0,0)] 1)) (.keep (kp [(3,0)] [(0,0)] 1) .skip))) (.trim [3] (.seq (.ops [mo 16 3,mo 2 16]) (.keep (kp [(2,0)] [(0,0)] 1) .ret)))))),[.t 2]⟩
abbrev g8_S:=Sys.on [(55,impl_readDecimal_r)] [((56,0),(1,g11_r))]
def impl_scanner_number_od0 (a1:Str×Bool):Option ((Str×Bool)×Int):=(impl_scanner_while_o53 a1).bind fun r1=>(impl_readDecimal r1.2).bind fun r2=>if ¬(r2.2=true) then some ((r1.1.1,true),r2.1) else some (r1.1,r2.1)
@[simp] def g8_O:((Str×Bool)×Int)→TV×List Blk:=fun r=>((.int .i64 r.2),[(.live 2 [[(.str r.1.1),(.bool r.1.2)]])])
abbrev g8_T:=(Str×Bool)
def g8_E (a:g8_T):List TV:=[(.ptr 0 0 0)]
def g8_B (a:g8_T):List Blk:=[(.live 2 [[(.str a.1),(.bool a.2)]])]
theorem g8_run (a1:Str×Bool) :callFn (X g8_S) g8_tf (g8_E a1) (g8_B a1)=(impl_scanner_number_od0 a1).map g8_O:=by
  rw [callFn_eq]
  simp (maxSteps:=2000000) (maxDischargeDepth:=8) -implicitDefEqProofs [g8_tf,impl_scanner_number_od0,g8_E,g8_B] <;> (try simp only [map_to_bind,some_elim,g8_O])
def g8_r:MRule:=RmO g8_E g8_B (fun a=>impl_scanner_number_od0 a) g8_O
theorem g8_ok:MRuleOk Tryz.prog 44 1 g8_r:=ok_rmo (S:=g8_S) (tf:=g8_tf) (SysOk.on ⟨impl_readDecimal_ok,trivial⟩ ⟨g11_ok,trivial⟩) (trE_ok (ks:=[]) Tryz.func44 (by kernel_rfl)) (by rfl) (fun _=>by simp [g8_B]) (fun _=>by simp) fun a=>g8_run a
@[simp] theorem g8_app (y0 y1):g8_r [(.ptr 0 0 0)] [(.live 2 [[(.str y0),(.bool y1)]])]=(impl_scanner_number_od0 ((y0,y1))).map g8_O:=by
  exact RmO_app (enc:=g8_E) (encB:=g8_B) (by intro a b h h2;simp [g8_E,g8_B,Prod.ext_iff] at h h2 ⊢;simp [h,h2]) ((y0,y1))
/-! (*impl.scanner).space -/
def g12p2_c:TC:=(sq [fa 35 0 3,ld 36 35,mo 37 4,oo 38 (.bslice [(.int .i64 0)] 1 [(0,(.t 37))]),oo 39 (.append 2 1 8 (.t 36) (.t 38)),fa 40 0 3,⟨none,none,(.store 1 (.t 40) (.t 39))⟩] [0,2,3,5] (.after (.ops [fa 41 1 3,ld 42 41,mo 43 5,oo 44 (.bslice [(.int .i64 0)] 1 [(0,(.t 43))]),oo 45 (.append 2 1 8 (.t 42) (.t 44)),fa 46 1 3,⟨none,none,(.store 1 (.t 46) (.t 45))⟩]) (kp [(0,0),(2,0),(3,0)] [(0,0),(1,2),(2,2),(6,1),(8,1)] 1)))
def g12p3_c:TC:=(sq [mo 24 0,oo 25 (.callM 44 0 [0] [.t 24]),mo 4 25] [0,2,3,4] (sq [mo 26 4,mo 5 26] [0,2,3,4,5] (.seq (.block 2 (sq [mo 28 0,oo 29 (.callM 43 0 [0] [.t 28,(.c (.str [47,42]))]),mo 27 29] [0,2,3,4,5,27] (.cond (.t 27) (.after (.ops [mk 5 (ki (-1))]) (kp [(0,0),(2,0),(3,0),(4,0),(5,0)] [(0,0),(1,2),(2,2),(3,1),(4,1)] 1)) (sq [mo 31 0,oo 32 (.callM 43 0 [0] [.t 31,(.c (.str [47]))]),mo 30 32] [0,2,3,4,5,30] (.cond (.t 30) (.after (.ops [mo 33 0,oo 34 (.callM 44 0 [0] [.t 33]),mo 5 34]) (kp [(0,0),(2,0),(3,0),(4,0),(5,0)] [(0,0),(1,2),(2,2),(3,1),(4,1)] 1)) (.keep (kp [(0,0),(2,0),(3,0),(4,0),(5,0)] [(0,0),(1,2),(2,2),(3,1),(4,1)] 1) .skip)))))) (.trim [0,2,3,4,5] g12p2_c))))
def g12l1_cb:TC:=(.seq (sq [mo 8 0,nk 9 8,fa 10 1 9,ld 11 10,nt 12 11,mo 13 12,⟨(some 14),(some (13,true)),(.mv (.t 0))⟩,⟨(some 15),(some (13,true)),(.callM 43 0 [0] [.t 14,(.c (.str [41]))])⟩,⟨(some 16),(some (13,true)),(.un .not (.t 15))⟩,pk 17 (.t 13) (.t 16) (kb false)] [0,2,3,17] (.cond (.t 17) .skip (.keep (kp [(2,0),(3,0)] [(0,0),(1,2),(2,2),(3,1),(4,1)] 1) (.exit 0)))) (.trim [0,2,3] (.block 1 (.seq (sq [fa 18 0 3,ld 19 18,le 20 19,bn 21 .gtr (.t 20) (ki 0)] [0,2,3,21] (.cond (.t 21) (.after (.ops [mo 22 0,oo 23 (.callM 42 0 [0] [.t 22,(.c (.str [44]))])]) (kp [(0,0),(2,0),(3,0)] [(0,0),(1,2),(2,2),(3,1),(4,1)] 1)) (.keep (kp [(0,0),(2,0),(3,0)] [(0,0),(1,2),(2,2),(3,1),(4,1)] 1) .skip))) (.trim [0,2,3] g12p3_c)))))
def g12l1_c:TC:=.loop [0,2,3] g12l1_cb
def g12_tf:TFn:=⟨(sq [oo 2 (.alloc [.nils,.nils])] [0,2] (sq [oo 3 (.alloc [.nils,.nils])] [0,2,3] (sq [mo 6 0,oo 7 (.callM 42 0 [0] [.t 6,(.c (.str [40]))])] [0,2,3] (.seq (.block 0 (.keep (kp [(0,0),(2,0),(3,0)] [(0,0),(1,2),(2,2),(1000,1),(1001,1)] 1) g12l1_c)) (.trim [2,3] (.seq (.ops [ln 47 2 3,⟨none,none,(.store 2 (.t 2) (.t 47))⟩]) (.keep (kp [(2,0)] [(0,0),(1,2),(3,1),(4,1)] 1) .ret))))))),[.cell 2 (some 2)]⟩
abbrev g12_S:=Sys.on [] [((42,0),(1,g7_r)),((43,0),(1,g6_r)),((44,0),(1,g8_r))]
@[reducible,simp] def g12p2_F:((Str×Bool)×(List Int×List Int))→Out:=(fun t=>(.nrm,[(0,(.ptr 0 0 0)),(2,(.ptr 1 0 0)),(3,(.ptr 2 0 0))],[(.live 2 [[(.str t.1.1),(.bool t.1.2)]]),(.live 2 [[.es,.es]]),(.live 2 [[(ow 3 t.2.1.length),(ow 4 t.2.2.length)]]),(ob 1 t.2.1),(ob 1 t.2.2)]))
def impl_scanner_space_od0_p2 (v12:Str×Bool) (v13:List Int×List Int) (v14:Int) (v15:Int):Option ((Str×Bool)×(List Int×List Int)):=(appL 8 v13.1 ((lit [v14]:List Int))).bind fun l16=>(appL 8 v13.2 ((lit [v15]:List Int))).bind fun l17=>some ((v12,(l16,l17)))
@[simp] theorem g12p2_eq (y0 y1)(y2:List Int)(y3:List Int)(y4 y5){n1:Nat}(h1:n1=y2.length){n2:Nat}(h2:n2=y3.length):X g12_S g12p2_c [(0,(.ptr 0 0 0)),(2,(.ptr 1 0 0)),(3,(.ptr 2 0 0)),(4,(.int .i64 y4)),(5,(.int .i64 y5))] [(.live 2 [[(.str y0),(.bool y1)]]),(.live 2 [[.es,.es]]),(.live 2 [[(ow 3 n1),(ow 4 n2)]]),(ob 1 y2),(ob 1 y3)]=(impl_scanner_space_od0_p2 ((y0,y1)) ((y2,y3)) y4 y5).map g12p2_F:=by
  subst h1 h2
  simp (maxSteps:=2000000) (maxDischargeDepth:=8) -implicitDefEqProofs [g12p2_c,impl_scanner_space_od0_p2,bslV_lit (α:=Int) (zs:=[(.int .i64 0)])] <;> (try simp only [map_to_bind,some_elim,g12p2_F])
@[reducible,simp] def g12p3_F:((Str×Bool)×(List Int×List Int))→Out:=(fun t=>(.nrm,[(0,(.ptr 0 0 0)),(2,(.ptr 1 0 0)),(3,(.ptr 2 0 0))],[(.live 2 [[(.str t.1.1),(.bool t.1.2)]]),(.live 2 [[.es,.es]]),(.live 2 [[(ow 3 t.2.1.length),(ow 4 t.2.2.length)]]),(ob 1 t.2.1),(ob 1 t.2.2)]))
def impl_scanner_space_od0_p3 (v6:Str×Bool) (v7:List Int×List Int):Option ((Str×Bool)×(List Int×List Int)):=(impl_scanner_number_od0 v6).bind fun r8=>(impl_scanner_accept_o0b r8.1 (([47,42]:Str))).bind fun r9=>if r9.2=true then (impl_scanner_space_od0_p2 r9.1 v7 r8.2 ((-1))).bind fun r18=>some ((r18.1,r18.2)) else (impl_scanner_accept_o0b r9.1 (([47]:Str))).bind fun r10=>if r10.2=true then (impl_scanner_number_od0 r10.1).bind fun r11=>(impl_scanner_space_od0_p2 r11.1 v7 r8.2 r11.2).bind fun r19=>some ((r19.1,r19.2)) else (impl_scanner_space_od0_p2 r10.1 v7 r8.2 r8.2).bind fun r20=>some ((r20.1,r20.2))
@[simp] theorem g12p3_eq (y0 y1)(y2:List Int)(y3:List Int){n1:Nat}(h1:n1=y2.length){n2:Nat}(h2:n2=y3.length):X g12_S g12p3_c [(0,(.ptr 0 0 0)),(2,(.ptr 1 0 0)),(3,(.ptr 2 0 0))] [(.live 2 [[(.str y0),(.bool y1)]]),(.live 2 [[.es,.es]]),(.live 2 [[(ow 3 n1),(ow 4 n2)]]),(ob 1 y2),(ob 1 y3)]=(impl_scanner_space_od0_p3 ((y0,y1)) ((y2,y3))).map g12p3_F:=by
  subst h1 h2
  simp (maxSteps:=2000000) (maxDischargeDepth:=8) -implicitDefEqProofs [g12p3_c,impl_scanner_space_od0_p3,bslV_lit (α:=Int) (zs:=[(.int .i64 0)])] <;> (try simp only [map_to_bind,some_elim,g12p3_F])
@[reducible,simp] def g12l1_F:((Str×Bool)×(List Int×List Int))→Out:=(fun t=>(.ext 0,[(2,(.ptr 1 0 0)),(3,(.ptr 2 0 0))],[(.live 2 [[(.str t.1.1),(.bool t.1.2)]]),(.live 2 [[.es,.es]]),(.live 2 [[(ow 3 t.2.1.length),(ow 4 t.2.2.length)]]),(ob 1 t.2.1),(ob 1 t.2.2)]))
def impl_scanner_space_od0_l1_b (v2:Str×Bool) (v3:List Int×List Int):Option (((Str×Bool)×(List Int×List Int)) ⊕ ((Str×Bool)×(List Int×List Int))):=if ¬(v2.2=true) then (impl_scanner_accept_o0b v2 (([41]:Str))).bind fun r4=>if ¬(r4.2=true) then if ((v3.1.length:Nat):Int) > 0 then (impl_scanner_expect_o0b r4.1 (([44]:Str))).bind fun r5=>(impl_scanner_space_od0_p3 r5 v3).bind fun r21=>some (.inl (r21.1,r21.2)) else (impl_scanner_space_od0_p3 r4.1 v3).bind fun r22=>some (.inl (r22.1,r22.2)) else some (.inr (r4.1,v3)) else some (.inr (v2,v3))
theorem g12l1_b_eq  (v2:Str×Bool) (v3:List Int×List Int):X g12_S g12l1_cb (keepEnv [0,2,3] [(0,(.ptr 0 0 0)),(2,(.ptr 1 0 0)),(3,(.ptr 2 0 0))]) [(.live 2 [[(.str v2.1),(.bool v2.2)]]),(.live 2 [[.es,.es]]),(.live 2 [[(ow 3 v3.1.length),(ow 4 v3.2.length)]]),(ob 1 v3.1),(ob 1 v3.2)]=(impl_scanner_space_od0_l1_b v2 v3).map (Sum.elim (fun s=>(TX.nrm,[(0,(.ptr 0 0 0)),(2,(.ptr 1 0 0)),(3,(.ptr 2 0 0))],[(.live 2 [[(.str s.1.1),(.bool s.1.2)]]),(.live 2 [[.es,.es]]),(.live 2 [[(ow 3 s.2.1.length),(ow 4 s.2.2.length)]]),(ob 1 s.2.1),(ob 1 s.2.2)])) g12l1_F):=by
  simp (maxSteps:=2000000) (maxDischargeDepth:=8) -implicitDefEqProofs [g12l1_cb,impl_scanner_space_od0_l1_b,bslV_lit (α:=Int) (zs:=[(.int .i64 0)])] <;> (try simp only [map_to_bind,some_elim,g12l1_F])
def impl_scanner_space_od0_l1  (s:(Str×Bool)×(List Int×List Int)):Option ((Str×Bool)×(List Int×List Int)):=loopO (fun s=>impl_scanner_space_od0_l1_b  s.1 s.2) s
@[simp] theorem g12l1_eq (y0 y1)(y2:List Int)(y3:List Int){n1:Nat}(h1:n1=y2.length){n2:Nat}(h2:n2=y3.length):X g12_S g12l1_c [(0,(.ptr 0 0 0)),(2,(.ptr 1 0 0)),(3,(.ptr 2 0 0))] [(.live 2 [[(.str y0),(.bool y1)]]),(.live 2 [[.es,.es]]),(.live 2 [[(ow 3 n1),(ow 4 n2)]]),(ob 1 y2),(ob 1 y3)]=(impl_scanner_space_od0_l1  ((y0,y1),(y2,y3))).map g12l1_F:=by
  subst h1 h2
  exact loop_X _ _ _ _ (by intro r;first | (simp;done) | (rcases r with r | r <;> simp;done) | (rcases r with r | r | r <;> simp;done) | (rcases r with r | r | r | r <;> simp)) (fun s=>g12l1_b_eq   s.1 s.2) ((y0,y1),(y2,y3))
@[simp] theorem g12l1_eq_1x0_1x1 (y0 y1):X g12_S g12l1_c [(0,(.ptr 0 0 0)),(2,(.ptr 1 0 0)),(3,(.ptr 2 0 0))] [(.live 2 [[(.str y0),(.bool y1)]]),(.live 2 [[.es,.es]]),(.live 2 [[.es,.es]]),.dead,.dead]=(impl_scanner_space_od0_l1  ((y0,y1),(([]:List Int),([]:List Int)))).map g12l1_F :=
  g12l1_eq  y0 y1 ([]:List Int) ([]:List Int) rfl rfl
def impl_scanner_space_od0 (a1:Str×Bool):Option ((Str×Bool)×(List Int×List Int)):=(impl_scanner_expect_o0b a1 (([40]:Str))).bind fun r1=>(impl_scanner_space_od0_l1 ((r1,(([]:List Int),([]:List Int))))).bind fun r23=>some (r23.1,r23.2)
@[simp] def g12_O:((Str×Bool)×(List Int×List Int))→TV×List Blk:=fun r=>((.agg [(ow 2 r.2.1.length),(ow 3 r.2.2.length)]),[(.live 2 [[(.str r.1.1),(.bool r.1.2)]]),(.live 2 [[(ow 2 r.2.1.length),(ow 3 r.2.2.length)]]),(ob 1 r.2.1),(ob 1 r.2.2)])
abbrev g12_T:=(Str×Bool)
def g12_E (a:g12_T):List TV:=[(.ptr 0 0 0)]
def g12_B (a:g12_T):List Blk:=[(.live 2 [[(.str a.1),(.bool a.2)]])]
theorem g12_run (a1:Str×Bool) :callFn (X g12_S) g12_tf (g12_E a1) (g12_B a1)=(impl_scanner_space_od0 a1).map g12_O:=by
  rw [callFn_eq]
  simp (maxSteps:=2000000) (maxDischargeDepth:=8) -implicitDefEqProofs [g12_tf,impl_scanner_space_od0,g12_E,g12_B,bslV_lit (α:=Int) (zs:=[(.int .i64 0)])] <;> (try simp only [map_to_bind,some_elim,g12_O])
def g12_r:MRule:=RmO g12_E g12_B (fun a=>impl_scanner_space_od0 a) g12_O
theorem g12_ok:MRuleOk Tryz.prog 22 1 g12_r:=ok_rmo (S:=g12_S) (tf:=g12_tf) (SysOk.on trivial ⟨g7_ok,g6_ok,g8_ok,trivial⟩) (trE_ok (ks:=[[0,2,3]]) Tryz.func22 (by kernel_rfl)) (by rfl) (fun _=>by simp [g12_B]) (fun _=>by simp) fun a=>g12_run a
@[simp] theorem g12_app (y0 y1):g12_r [(.ptr 0 0 0)] [(.live 2 [[(.str y0),(.bool y1)]])]=(impl_scanner_space_od0 ((y0,y1))).map g12_O:=by
  exact RmO_app (enc:=g12_E) (encB:=g12_B) (by intro a b h h2;simp [g12_E,g12_B,Prod.ext_iff] at h h2 ⊢;simp [h,h2]) ((y0,y1))
/-! impl.ReadSpace -/
def g41_tf:TFn:=⟨(sq [oo 2 (.alloc [.nils,.nils]),mk 3 (kb false)] [0,2] (sq [mo 6 0,oo 7 (.build [(.str []),(.bool false)] [(0,1,(.t 6))]),bx 8 7,mo 4 8] [0,2,4] (sq [mo 9 4,oo 10 (.callM 22 0 [1] [.t 9]),oo 5 (.alloc [.nils,.nils]),⟨none,none,(.store 2 (.t 5) (.t 10))⟩] [0,2,4,5] (.seq (sq [mo 11 4,nk 12 11,fa 13 1 12,ld 14 13,mo 15 14,⟨(some 16),(some (15,false)),(.load (some 2) (.t 5))⟩,⟨(some 17),(some (15,false)),(.call 17 [.t 16])⟩,⟨(some 18),(some (15,false)),(.un .not (.t 17))⟩,pk 19 (.t 15) (kb true) (.t 18),mo 20 19,⟨(some 21),(some (20,false)),(.load (some 2) (.t 5))⟩,⟨(some 22),(some (20,false)),(.call 19 [.t 21])⟩,⟨(some 23),(some (20,false)),(.mv (.t 0))⟩,⟨(some 24),(some (20,false)),(.bin .str .neq (.t 22) (.t 23))⟩,pk 25 (.t 20) (kb true) (.t 24)] [2,5,25] (.cond (.t 25) (.seq (.ops [oo 26 (.build [.nils,.nils] []),⟨none,none,(.store 2 (.t 2) (.t 26))⟩,mk 3 (kb false)]) (.keep (kp [(2,0),(3,0)] [(0,2),(1000,1),(1001,1)] 0) .ret)) .skip)) (.trim [2,5] (.seq (.ops [ln 27 2 5,⟨none,none,(.store 2 (.t 2) (.t 27))⟩,mk 3 (kb true)]) (.keep (kp [(2,0),(3,0)] [(0,2),(3,1),(4,1)] 0) .ret))))))),[.cell 2 (some 2),.t 3]⟩
abbrev g41_S:=Sys.on [(17,g34_r),(19,g35_r)] [((22,0),(1,g12_r))]
def impl_ReadSpace (a_s:Str):Option ((List Int×List Int)×Bool):=(impl_scanner_space_od0 ((a_s,false))).bind fun r1=>if r1.1.2=true then some ((([]:List Int),([]:List Int)),false) else (impl_ValidSpace r1.2).bind fun r2=>if ¬(r2=true) then some ((([]:List Int),([]:List Int)),false) else (impl_Space_text r1.2).bind fun r3=>if ¬(r3=a_s) then some ((([]:List Int),([]:List Int)),false) else some (r1.2,true)
@[simp] def g41_O:((List Int×List Int)×Bool)→TV×List Blk:=fun r=>((.tup [(.agg [(ow 1 r.1.1.length),(ow 2 r.1.2.length)]),(.bool r.2)]),[(.live 2 [[(ow 1 r.1.1.length),(ow 2 r.1.2.length)]]),(ob 1 r.1.1),(ob 1 r.1.2)])
def g41_E (a:Str):List TV:=[(.str a)]
theorem g41_run (a_s:Str) :callFn (X g41_S) g41_tf (g41_E a_s) []=(impl_ReadSpace a_s).map g41_O:=by
  rw [callFn_eq]
  simp (maxSteps:=2000000) (maxDischargeDepth:=8) -implicitDefEqProofs [g41_tf,impl_ReadSpace,g41_E] <;> (try simp only [map_to_bind,some_elim,g41_O])
def g41_r:Rule:=RlO g41_E (fun a=>impl_ReadSpace a) g41_O
theorem g41_ok:RuleOk Tryz.prog 9 g41_r:=ok_rlo (S:=g41_S) (tf:=g41_tf) (SysOk.on ⟨g34_ok,g35_ok,trivial⟩ ⟨g12_ok,trivial⟩) (trE_ok (ks:=[]) Tryz.func9 (by kernel_rfl)) fun a=>g41_run a
@[simp] theorem g41_app (y0):g41_r [(.str y0)]=(impl_ReadSpace y0).map g41_O :=
  RlO_app (enc:=g41_E) (by intro a b h;simp [g41_E,Prod.ext_iff] at h ⊢;simp [h]) y0
/-! (impl.Space).resizable -/
def g22l1_cb:TC:=(sq [bn 16 .lss (.t 15) (.t 14)] [2,13,14,15,16] (.seq (.cond (.t 16) .skip (.keep (kp [] [] 0) (.exit 0))) (.trim [2,13,14,15] (.seq (.block 1 (sq [mo 17 15,ia 18 1 13 15,ld 19 18,mo 5 17,mo 6 19] [2,5,6,13,14,15] (sq [fa 20 1 2,ld 21 20,mo 22 5,ia 23 1 21 22,ld 24 23,bn 25 .neq (.t 24) (ki (-1)),mo 26 25,⟨(some 27),(some (26,true)),(.mv (.t 6))⟩,⟨(some 28),(some (26,true)),(.faddr 1 (.t 2))⟩,⟨(some 29),(some (26,true)),(.load none (.t 28))⟩,⟨(some 30),(some (26,true)),(.mv (.t 5))⟩,⟨(some 31),(some (26,true)),(.iaddr 1 (.t 29) (.t 30))⟩,⟨(some 32),(some (26,true)),(.load none (.t 31))⟩,⟨(some 33),(some (26,true)),(.bin .num .gtr (.t 27) (.t 32))⟩,pk 34 (.t 26) (.t 33) (kb false)] [2,13,14,15,34] (.cond (.t 34) (.seq (.ops [mk 4 (kb false)]) (.keep (kp [(4,0)] [] 0) .ret)) (.keep (kp [(2,0),(13,0),(14,0),(15,0)] [(0,0)] 0) .skip))))) (.trim [2,13,14,15] (.after (.ops [bn 35 .add (.t 15) (ki 1),mo 15 35]) (kp [(2,0),(13,0),(14,0),(15,0)] [(0,0)] 0)))))))
def g22l1_c:TC:=.loop [2,13,14,15] g22l1_cb
def g22_tf:TFn:=⟨(sq [bx 2 0,mk 4 (kb false)] [1,2] (.seq (sq [mo 7 1,le 8 7,fa 9 0 2,ld 10 9,le 11 10,bn 12 .neq (.t 8) (.t 11)] [1,2,12] (.cond (.t 12) (.seq (.ops [mk 4 (kb false)]) (.keep (kp [(4,0)] [] 0) .ret)) .skip)) (.trim [1,2] (.seq (sq [mo 13 1,le 14 13,mk 15 (ki 0)] [2,13,14,15] (.block 0 (.keep (kp [(2,0),(13,0),(14,0),(15,0)] [(0,0)] 0) g22l1_c))) (.trim [] (.seq (.ops [mk 4 (kb true)]) (.keep (kp [(4,0)] [] 0) .ret))))))),[.t 4]⟩
abbrev g22_S:=Sys.on [] []
@[reducible,simp] def g22l1_F:((Unit) ⊕ (Bool))→Out:=(Sum.elim (fun t=>(.ext 0,[],[])) (fun t=>(.ret,[(4,(.bool t))],[])))
def impl_Space_resizable_l1_b (v1:List Int×List Int) (v2:List Int) (v3:Int) (v4:Int):Option ((Int) ⊕ ((Unit) ⊕ (Bool))):=if v4 < v3 then if 0≤v4 then (v2[(v4).toNat]?).bind fun x5=>if 0≤v4 then (v1.2[(v4).toNat]?).bind fun x6=>if ¬(x6=(-1)) then if 0≤v4 then (v1.2[(v4).toNat]?).bind fun x7=>if x5 > x7 then some (.inr (.inr false)) else some (.inl ((IntKind.i64.wrap (v4+1)))) else none else some (.inl ((IntKind.i64.wrap (v4+1)))) else none else none else some (.inr (.inl ()))
theorem g22l1_b_eq  (v1:List Int×List Int) (v2:List Int) (v3:Int) (v4:Int):X g22_S g22l1_cb (keepEnv [2,13,14,15] [(2,(.ptr 0 0 0)),(13,(.vs (rows v2))),(14,(.int .i64 v3)),(15,(.int .i64 v4))]) [(.live 2 [[(.vs (rows v1.1)),(.vs (rows v1.2))]])]=(impl_Space_resizable_l1_b v1 v2 v3 v4).map (Sum.elim (fun s=>(TX.nrm,[(2,(.ptr 0 0 0)),(13,(.vs (rows v2))),(14,(.int .i64 v3)),(15,(.int .i64 s))],[(.live 2 [[(.vs (rows v1.1)),(.vs (rows v1.2))]])])) g22l1_F):=by
  simp (maxSteps:=2000000) (maxDischargeDepth:=8) -implicitDefEqProofs [g22l1_cb,impl_Space_resizable_l1_b] <;> (try simp only [map_to_bind,some_elim,g22l1_F])
def impl_Space_resizable_l1 (v1:List Int×List Int) (v2:List Int) (v3:Int) (s:Int):Option ((Unit) ⊕ (Bool)):=loopO (fun s=>impl_Space_resizable_l1_b v1 v2 v3 s) s
@[simp] theorem g22l1_eq (y0 y1 y2 y3 y4):X g22_S g22l1_c [(2,(.ptr 0 0 0)),(13,(.vs (rows y2))),(14,(.int .i64 y3)),(15,(.int .i64 y4))] [(.live 2 [[(.vs (rows y0)),(.vs (rows y1))]])]=(impl_Space_resizable_l1 ((y0,y1)) y2 y3 y4).map g22l1_F:=by
  exact loop_X _ _ _ _ (by intro r;first | (simp;done) | (rcases r with r | r <;> simp;done) | (rcases r with r | r | r <;> simp;done) | (rcases r with r | r | r | r <;> simp)) (fun s=>g22l1_b_eq  ((y0,y1)) y2 y3 s) y4
def impl_Space_resizable (a_s:List Int×List Int) (a_dims:List Int):Option (Bool):=if ¬((a_dims.length:Int)=(a_s.1.length:Int)) then some false else (impl_Space_resizable_l1 a_s a_dims ((a_dims.length:Int)) 0).bind fun r8=>Sum.elim (fun u9=>some true) (fun u10=>some u10) r8
@[simp] def g22_O:Bool→TV×List Blk:=fun r=>((.bool r),[])
def g22_E (a:(List Int×List Int)×List Int):List TV:=[(.agg [(.vs (rows a.1.1)),(.vs (rows a.1.2))]),(.vs (rows a.2))]
theorem g22_run (a_s:List Int×List Int) (a_dims:List Int) :callFn (X g22_S) g22_tf (g22_E (a_s,a_dims)) []=(impl_Space_resizable a_s a_dims).map g22_O:=by
  rw [callFn_eq]
  simp (maxSteps:=2000000) (maxDischargeDepth:=8) -implicitDefEqProofs [g22_tf,impl_Space_resizable,g22_E] <;> (try simp only [map_to_bind,some_elim,g22_O])
def g22_r:Rule:=RlO g22_E (fun a=>impl_Space_resizable a.1 a.2) g22_O
theorem g22_ok:RuleOk Tryz.prog 24 g22_r:=ok_rlo (S:=g22_S) (tf:=g22_tf) (SysOk.on trivial trivial) (trE_ok (ks:=[[2,13,14,15]]) Tryz.func24 (by kernel_rfl)) fun a=>g22_run a.1 a.2
@[simp] theorem g22_app (y0 y1 y2):g22_r [(.agg [(.vs (rows y0)),(.vs (rows y1))]),(.vs (rows y2))]=(impl_Space_resizable ((y0,y1)) y2).map g22_O :=
  RlO_app (enc:=g22_E) (by intro a b h;simp [g22_E,Prod.ext_iff] at h ⊢;simp [h]) ((y0,y1),y2)
/-! slices.Clone[[]int64,int64] -/
theorem g4_fn:FnOk Tryz.prog 25 (cloneTF 2 [(.int .i64 0)] 1 8):=trF_ok (ks:=[]) Tryz.func25 (by kernel_rfl)
noncomputable def slices_Clone_int64_int64_ (l:List (Int)):Option (List (Int)):=appL 8 [] l
noncomputable def g4_r:Rule:=RlO (fun (l:List (Int))=>[TV.vs (rows l)]) (fun l=>slices_Clone_int64_int64_ l) (fun r=>(ow 0 r.length,[ob 1 r]))
theorem g4_ok:RuleOk Tryz.prog 25 g4_r:=clone_ok rfl g4_fn
@[simp] theorem g4_app (y0):g4_r [TV.vs (rows y0)]=(slices_Clone_int64_int64_ y0).map (fun r=>(ow 0 r.length,[ob 1 r])):=RlO_app (enc:=fun (y0:List (Int))=>[TV.vs (rows y0)]) (g:=fun y0=>slices_Clone_int64_int64_ y0) (by intro a b h;simpa using h) y0
/-! impl.ResizeSpace -/
def g33_tf:TFn:=⟨(sq [bx 2 0,oo 4 (.alloc [.nils,.nils]),mk 5 (ki 0)] [1,2,4] (.seq (.block 0 (sq [ln 7 2 2,ca 8 17 [.t 7],nt 9 8,mo 10 9,⟨(some 11),(some (10,false)),(.mv (.t 1))⟩,⟨(some 12),(some (10,false)),(.call 23 [.t 11])⟩,⟨(some 13),(some (10,false)),(.un .not (.t 12))⟩,pk 14 (.t 10) (kb true) (.t 13),mo 6 14] [1,2,4,6] (.cond (.t 6) (.seq (.ops [oo 15 (.build [.nils,.nils] []),⟨none,none,(.store 2 (.t 4) (.t 15))⟩,mk 5 (ki 1)]) (.keep (kp [(4,0),(5,0)] [(1,2),(1000,1),(1001,1)] 0) .ret)) (sq [ln 17 2 2,mo 18 1,ca 19 24 [.t 17,.t 18],nt 20 19,mo 16 20] [1,2,4,16] (.cond (.t 16) (.seq (.ops [oo 21 (.build [.nils,.nils] []),⟨none,none,(.store 2 (.t 4) (.t 21))⟩,mk 5 (ki 2)]) (.keep (kp [(4,0),(5,0)] [(1,2),(1000,1),(1001,1)] 0) .ret)) .skip))))) (.trim [1,2,4] (.seq (.draw [([],mo 22 1),([0],ca 23 25 [.t 22]),([],fa 24 1 2),([2],ld 25 24)] [ca 26 25 [.t 25],oo 27 (.build [.nils,.nils] [(0,1,(.t 23)),(1,1,(.t 26))]),⟨none,none,(.store 2 (.t 4) (.t 27))⟩,mk 5 (ki 0)]) (.keep (kp [(4,0),(5,0)] [(1,2),(2,1),(3,1)] 0) .ret))))),[.cell 4 (some 2),.t 5]⟩
abbrev g33_S:=Sys.on [(17,g34_r),(23,g39_r),(24,g22_r),(25,g4_r)] []
def impl_ResizeSpace (a_s:List Int×List Int) (a_dims:List Int):Option ((List Int×List Int)×Int):=(impl_ValidSpace a_s).bind fun r1=>if ¬(r1=true) then some ((([]:List Int),([]:List Int)),1) else (impl_ValidDims a_dims).bind fun r2=>if ¬(r2=true) then some ((([]:List Int),([]:List Int)),1) else (impl_Space_resizable a_s a_dims).bind fun r3=>if ¬(r3=true) then some ((([]:List Int),([]:List Int)),2) else (slices_Clone_int64_int64_ a_dims).bind fun r4=>(slices_Clone_int64_int64_ a_s.2).bind fun r5=>some ((r4,r5),0)
@[simp] def g33_O:((List Int×List Int)×Int)→TV×List Blk:=fun r=>((.tup [(.agg [(ow 1 r.1.1.length),(ow 2 r.1.2.length)]),(.int .i64 r.2)]),[(.live 2 [[(ow 1 r.1.1.length),(ow 2 r.1.2.length)]]),(ob 1 r.1.1),(ob 1 r.1.2)])
def g33_E (a:(List Int×List Int)×List Int):List TV:=[(.agg [(.vs (rows a.1.1)),(.vs (rows a.1.2))]),(.vs (rows a.2))]
theorem g33_run (a_s:List Int×List Int) (a_dims:List Int) :callFn (X g33_S) g33_tf (g33_E (a_s,a_dims)) []=(impl_ResizeSpace a_s a_dims).map g33_O:=by
  rw [callFn_eq]
  simp (maxSteps:=2000000) (maxDischargeDepth:=8) -implicitDefEqProofs [g33_tf,impl_ResizeSpace,g33_E] <;> (try simp only [map_to_bind,some_elim,g33_O])
def g33_r:Rule:=RlO g33_E (fun a=>impl_ResizeSpace a.1 a.2) g33_O
theorem g33_ok:RuleOk Tryz.prog 10 g33_r:=ok_rlo (S:=g33_S) (tf:=g33_tf) (SysOk.on ⟨g34_ok,g39_ok,g22_ok,g4_ok,trivial⟩ trivial) (trE_ok (ks:=[[4]]) Tryz.func10 (by kernel_rfl)) fun a=>g33_run a.1 a.2
@[simp] theorem g33_app (y0 y1 y2):g33_r [(.agg [(.vs (rows y0)),(.vs (rows y1))]),(.vs (rows y2))]=(impl_ResizeSpace ((y0,y1)) y2).map g33_O :=
  RlO_app (enc:=g33_E) (by intro a b h;simp [g33_E,Prod.ext_iff] at h ⊢;simp [h]) ((y0,y1),y2)
/-! spec.l00Same -/
def g55l1_cb:TC:=(.seq (sq [mo 11 5,mo 12 0,le 13 12,bn 14 .lss (.t 11) (.t 13)] [0,1,5,14] (.cond (.t 14) .skip (.keep (kp [] [] 0) (.exit 0)))) (.trim [0,1,5] (.seq (.block 1 (.seq (.draw [([],mo 17 0),([],mo 18 5),([0,1],ia 19 1 17 18),([0,1,2],ld 20 19),([],mo 21 1),([],mo 22 5),([4,5],ia 23 1 21 22),([4,5,6],ld 24 23)] [bn 25 .neq (.t 20) (.t 24)]) (.trim [0,1,5,25] (.cond (.t 25) (.seq (.ops [mk 4 (kb false)]) (.keep (kp [(4,0)] [] 0) .ret)) .skip)))) (.trim [0,1,5] (.after (.ops [mo 15 5,bn 16 .add (.t 15) (ki 1),mo 5 16]) (kp [(0,0),(1,0),(5,0)] [] 0))))))
def g55l1_c:TC:=.loop [0,1,5] g55l1_cb
def g55_tf:TFn:=⟨(sq [mk 4 (kb false)] [0,1] (.seq (sq [mo 6 0,le 7 6,mo 8 1,le 9 8,bn 10 .neq (.t 7) (.t 9)] [0,1,10] (.cond (.t 10) (.seq (.ops [mk 4 (kb false)]) (.keep (kp [(4,0)] [] 0) .ret)) .skip)) (.trim [0,1] (.seq (sq [mk 5 (ki 0)] [0,1,5] (.block 0 (.keep (kp [(0,0),(1,0),(5,0)] [] 0) g55l1_c))) (.trim [] (.seq (.ops [mk 4 (kb true)]) (.keep (kp [(4,0)] [] 0) .ret))))))),[.t 4]⟩
abbrev g55_S:=Sys.on [] []
@[reducible,simp] def g55l1_F:((Unit) ⊕ (Bool))→Out:=(Sum.elim (fun t=>(.ext 0,[],[])) (fun t=>(.ret,[(4,(.bool t))],[])))
def spec_l00Same_l1_b (v1:List Int) (v2:List Int) (v3:Int):Option ((Int) ⊕ ((Unit) ⊕ (Bool))):=if v3 < (v1.length:Int) then if 0≤v3 then (v1[(v3).toNat]?).bind fun x4=>if 0≤v3 then (v2[(v3).toNat]?).bind fun x5=>if ¬(x4=x5) then some (.inr (.inr false)) else some (.inl ((IntKind.i64.wrap (v3+1)))) else none else none else some (.inr (.inl ()))
theorem g55l1_b_eq  (v1:List Int) (v2:List Int) (v3:Int):X g55_S g55l1_cb (keepEnv [0,1,5] [(0,(.vs (rows v1))),(1,(.vs (rows v2))),(5,(.int .i64 v3))]) []=(spec_l00Same_l1_b v1 v2 v3).map (Sum.elim (fun s=>(TX.nrm,[(0,(.vs (rows v1))),(1,(.vs (rows v2))),(5,(.int .i64 s))],[])) g55l1_F):=by
  simp (maxSteps:=2000000) (maxDischargeDepth:=8) -implicitDefEqProofs [g55l1_cb,spec_l00Same_l1_b] <;> (try simp only [map_to_bind,some_elim,g55l1_F])
def spec_l00Same_l1 (v1:List Int) (v2:List Int) (s:Int):Option ((Unit) ⊕ (Bool)):=loopO (fun s=>spec_l00Same_l1_b v1 v2 s) s
@[simp] theorem g55l1_eq (y0 y1 y2):X g55_S g55l1_c [(0,(.vs (rows y0))),(1,(.vs (rows y1))),(5,(.int .i64 y2))] []=(spec_l00Same_l1 y0 y1 y2).map g55l1_F:=by
  exact loop_X _ _ _ _ (by intro r;first | (simp;done) | (rcases r with r | r <;> simp;done) | (rcases r with r | r | r <;> simp;done) | (rcases r with r | r | r | r <;> simp)) (fun s=>g55l1_b_eq  y0 y1 s) y2
def spec_l00Same (a_a:List Int) (a_b:List Int):Option (Bool):=if ¬((a_a.length:Int)=(a_b.length:Int)) then some false else (spec_l00Same_l1 a_a a_b 0).bind fun r6=>Sum.elim (fun u7=>some true) (fun u8=>some u8) r6
@[simp] def g55_O:Bool→TV×List Blk:=fun r=>((.bool r),[])
def g55_E (a:List Int×List Int):List TV:=[(.vs (rows a.1)),(.vs (rows a.2))]
theorem g55_run (a_a:List Int) (a_b:List Int) :callFn (X g55_S) g55_tf (g55_E (a_a,a_b)) []=(spec_l00Same a_a a_b).map g55_O:=by
  rw [callFn_eq]
  simp (maxSteps:=2000000) (maxDischargeDepth:=8) -implicitDefEqProofs [g55_tf,spec_l00Same,g55_E] <;> (try simp only [map_to_bind,some_elim,g55_O])
def g55_r:Rule:=RlO g55_E (fun a=>spec_l00Same a.1 a.2) g55_O
theorem g55_ok:RuleOk Tryz.prog 26 g55_r:=ok_rlo (S:=g55_S) (tf:=g55_tf) (SysOk.on trivial trivial) (trE_ok (ks:=[[0,1,5],[8]]) Tryz.func26 (by kernel_rfl)) fun a=>g55_run a.1 a.2
@[simp] theorem g55_app (y0 y1):g55_r [(.vs (rows y0)),(.vs (rows y1))]=(spec_l00Same y0 y1).map g55_O :=
  RlO_app (enc:=g55_E) (by intro a b h;simp [g55_E,Prod.ext_iff] at h ⊢;simp [h]) (y0,y1)
/-! spec.SameSpace -/
def g42_tf:TFn:=⟨(sq [bx 2 0,bx 3 1,mk 4 (kb false)] [2,3] (.seq (.after (.ops [fa 5 0 2,ld 6 5,fa 7 0 3,ld 8 7,ca 9 26 [.t 6,.t 8],mo 10 9,⟨(some 11),(some (10,true)),(.faddr 1 (.t 2))⟩,⟨(some 12),(some (10,true)),(.load none (.t 11))⟩,⟨(some 13),(some (10,true)),(.faddr 1 (.t 3))⟩,⟨(some 14),(some (10,true)),(.load none (.t 13))⟩,⟨(some 15),(some (10,true)),(.call 26 [.t 12,.t 14])⟩,pk 16 (.t 10) (.t 15) (kb false),mo 4 16]) (kp [(4,0)] [] 0)) (.keep (kp [(4,0)] [] 0) .ret))),[.t 4]⟩
abbrev g42_S:=Sys.on [(26,g55_r)] []
def spec_SameSpace (a_a:List Int×List Int) (a_b:List Int×List Int):Option (Bool):=(spec_l00Same a_a.1 a_b.1).bind fun r1=>if r1=true then (spec_l00Same a_a.2 a_b.2).bind fun r2=>some r2 else some false
@[simp] def g42_O:Bool→TV×List Blk:=fun r=>((.bool r),[])
def g42_E (a:(List Int×List Int)×(List Int×List Int)):List TV:=[(.agg [(.vs (rows a.1.1)),(.vs (rows a.1.2))]),(.agg [(.vs (rows a.2.1)),(.vs (rows a.2.2))])]
theorem g42_run (a_a:List Int×List Int) (a_b:List Int×List Int) :callFn (X g42_S) g42_tf (g42_E (a_a,a_b)) []=(spec_SameSpace a_a a_b).map g42_O:=by
  rw [callFn_eq]
  simp (maxSteps:=2000000) (maxDischargeDepth:=8) -implicitDefEqProofs [g42_tf,spec_SameSpace,g42_E] <;> (try simp only [map_to_bind,some_elim,g42_O])
def g42_r:Rule:=RlO g42_E (fun a=>spec_SameSpace a.1 a.2) g42_O
theorem g42_ok:RuleOk Tryz.prog 11 g42_r:=ok_rlo (S:=g42_S) (tf:=g42_tf) (SysOk.on ⟨g55_ok,trivial⟩ trivial) (trE_ok (ks:=[]) Tryz.func11 (by kernel_rfl)) fun a=>g42_run a.1 a.2
@[simp] theorem g42_app (y0 y1 y2 y3):g42_r [(.agg [(.vs (rows y0)),(.vs (rows y1))]),(.agg [(.vs (rows y2)),(.vs (rows y3))])]=(spec_SameSpace ((y0,y1)) ((y2,y3))).map g42_O :=
  RlO_app (enc:=g42_E) (by intro a b h;simp [g42_E,Prod.ext_iff] at h ⊢;simp [h]) ((y0,y1),(y2,y3))
/-! impl.ElementsOf -/
def g37_tf:TFn:=⟨(sq [mk 2 (ki 0)] [0] (.seq (sq [mo 3 0,ca 4 23 [.t 3],nt 5 4] [0,5] (.cond (.t 5) (.seq (.ops [mk 2 (ki (-1))]) (.keep (kp [(2,0)] [] 0) .ret)) .skip)) (.trim [0] (.seq (.ops [mo 6 0,ca 7 27 [.t 6],mo 2 7]) (.keep (kp [(2,0)] [] 0) .ret))))),[.t 2]⟩
abbrev g37_S:=Sys.on [(23,g39_r),(27,g49_r)] []
def impl_ElementsOf (a_dims:List Int):Option (Int):=(impl_ValidDims a_dims).bind fun r1=>if ¬(r1=true) then some ((-1)) else (impl_product a_dims).bind fun r2=>some r2
@[simp] def g37_O:Int→TV×List Blk:=fun r=>((.int .i64 r),[])
def g37_E (a:List Int):List TV:=[(.vs (rows a))]
theorem g37_run (a_dims:List Int) :callFn (X g37_S) g37_tf (g37_E a_dims) []=(impl_ElementsOf a_dims).map g37_O:=by
  rw [callFn_eq]
  simp (maxSteps:=2000000) (maxDischargeDepth:=8) -implicitDefEqProofs [g37_tf,impl_ElementsOf,g37_E] <;> (try simp only [map_to_bind,some_elim,g37_O])
def g37_r:Rule:=RlO g37_E (fun a=>impl_ElementsOf a) g37_O
theorem g37_ok:RuleOk Tryz.prog 12 g37_r:=ok_rlo (S:=g37_S) (tf:=g37_tf) (SysOk.on ⟨g39_ok,g49_ok,trivial⟩ trivial) (trE_ok (ks:=[]) Tryz.func12 (by kernel_rfl)) fun a=>g37_run a
@[simp] theorem g37_app (y0):g37_r [(.vs (rows y0))]=(impl_ElementsOf y0).map g37_O :=
  RlO_app (enc:=g37_E) (by intro a b h;simp [g37_E,Prod.ext_iff] at h ⊢;simp [h]) y0
/-! impl.coordsOf -/
noncomputable def impl_coordsOf (l:List Int) (i:Int):Option (List Int):=coordS l i
noncomputable def g45_r:Rule:=coord_r
theorem g45_ok:RuleOk Tryz.prog 29 g45_r:=coord_ok
@[simp] theorem g45_app (y0 y1):g45_r [.vs (rows y0),.int .i64 y1]=(impl_coordsOf y0 y1).map (fun r=>(.hs 0 0 r.length true,[.live 1 (rows r)])):=coordS_app y0 y1
/-! impl.CoordsOf -/
def g46_tf:TFn:=⟨(sq [mk 4 (.c .nils)] [0,1] (.seq (sq [mo 5 0,ca 6 23 [.t 5],nt 7 6,mo 8 7,⟨(some 9),(some (8,false)),(.mv (.t 1))⟩,⟨(some 10),(some (8,false)),(.mv (.t 0))⟩,⟨(some 11),(some (8,false)),(.call 27 [.t 10])⟩,⟨(some 12),(some (8,false)),(.bin .num .sub (.t 11) (ki 1))⟩,⟨(some 13),(some (8,false)),(.call 28 [.t 9,ki 0,.t 12])⟩,⟨(some 14),(some (8,false)),(.un .not (.t 13))⟩,pk 15 (.t 8) (kb true) (.t 14)] [0,1,15] (.cond (.t 15) (.seq (.ops [mk 4 (.c .nils)]) (.keep (kp [(4,1)] [(1000,1)] 0) .ret)) .skip)) (.trim [0,1] (.seq (.ops [mo 16 0,mo 17 1,ca 18 29 [.t 16,.t 17],mo 4 18]) (.keep (kp [(4,1)] [(0,1)] 0) .ret))))),[.t 4]⟩
abbrev g46_S:=Sys.on [(23,g39_r),(27,g49_r),(28,g58_r),(29,g45_r)] []
def impl_CoordsOf (a_dims:List Int) (a_index:Int):Option (List Int):=(impl_ValidDims a_dims).bind fun r1=>if ¬(r1=true) then some (([]:List Int)) else (impl_product a_dims).bind fun r2=>(impl_within a_index 0 ((IntKind.i64.wrap (r2 - 1)))).bind fun r3=>if ¬(r3=true) then some (([]:List Int)) else (impl_coordsOf a_dims a_index).bind fun r4=>some r4
@[simp] def g46_O:List Int→TV×List Blk:=fun r=>((ow 0 r.length),[(ob 1 r)])
def g46_E (a:List Int×Int):List TV:=[(.vs (rows a.1)),(.int .i64 a.2)]
theorem g46_run (a_dims:List Int) (a_index:Int) :callFn (X g46_S) g46_tf (g46_E (a_dims,a_index)) []=(impl_CoordsOf a_dims a_index).map g46_O:=by
  rw [callFn_eq]
  simp (maxSteps:=2000000) (maxDischargeDepth:=8) -implicitDefEqProofs [g46_tf,impl_CoordsOf,g46_E] <;> (try simp only [map_to_bind,some_elim,g46_O])
def g46_r:Rule:=RlO g46_E (fun a=>impl_CoordsOf a.1 a.2) g46_O
theorem g46_ok:RuleOk Tryz.prog 13 g46_r:=ok_rlo (S:=g46_S) (tf:=g46_tf) (SysOk.on ⟨g39_ok,g49_ok,g58_ok,g45_ok,trivial⟩ trivial) (trE_ok (ks:=[]) Tryz.func13 (by kernel_rfl)) fun a=>g46_run a.1 a.2
@[simp] theorem g46_app (y0 y1):g46_r [(.vs (rows y0)),(.int .i64 y1)]=(impl_CoordsOf y0 y1).map g46_O :=
  RlO_app (enc:=g46_E) (by intro a b h;simp [g46_E,Prod.ext_iff] at h ⊢;simp [h]) (y0,y1)
/-! impl.inDims -/
def g59l1_cb:TC:=(sq [bn 15 .lss (.t 14) (.t 13)] [0,12,13,14,15] (.seq (.cond (.t 15) .skip (.keep (kp [] [] 0) (.exit 0))) (.trim [0,12,13,14] (.seq (.block 1 (sq [mo 16 14,ia 17 1 12 14,ld 18 17,mo 5 16,mo 6 18] [0,5,6,12,13,14] (sq [mo 19 6,mo 20 0,mo 21 5,ia 22 1 20 21,ld 23 22,bn 24 .sub (.t 23) (ki 1),ca 25 28 [.t 19,ki 0,.t 24],nt 26 25] [0,12,13,14,26] (.cond (.t 26) (.seq (.ops [mk 4 (kb false)]) (.keep (kp [(4,0)] [] 0) .ret)) .skip)))) (.trim [0,12,13,14] (.after (.ops [bn 27 .add (.t 14) (ki 1),mo 14 27]) (kp [(0,0),(12,0),(13,0),(14,0)] [] 0)))))))
def g59l1_c:TC:=.loop [0,12,13,14] g59l1_cb
def g59_tf:TFn:=⟨(sq [mk 4 (kb false)] [0,1] (.seq (sq [mo 7 1,le 8 7,mo 9 0,le 10 9,bn 11 .neq (.t 8) (.t 10)] [0,1,11] (.cond (.t 11) (.seq (.ops [mk 4 (kb false)]) (.keep (kp [(4,0)] [] 0) .ret)) .skip)) (.trim [0,1] (.seq (sq [mo 12 1,le 13 12,mk 14 (ki 0)] [0,12,13,14] (.block 0 (.keep (kp [(0,0),(12,0),(13,0),(14,0)] [] 0) g59l1_c))) (.trim [] (.seq (.ops [mk 4 (kb true)]) (.keep (kp [(4,0)] [] 0) .ret))))))),[.t 4]⟩
abbrev g59_S:=Sys.on [(28,g58_r)] []
@[reducible,simp] def g59l1_F:((Unit) ⊕ (Bool))→Out:=(Sum.elim (fun t=>(.ext 0,[],[])) (fun t=>(.ret,[(4,(.bool t))],[])))
def impl_inDims_l1_b (v1:List Int) (v2:List Int) (v3:Int) (v4:Int):Option ((Int) ⊕ ((Unit) ⊕ (Bool))):=if v4 < v3 then if 0≤v4 then (v2[(v4).toNat]?).bind fun x5=>if 0≤v4 then (v1[(v4).toNat]?).bind fun x6=>(impl_within x5 0 ((IntKind.i64.wrap (x6 - 1)))).bind fun r7=>if ¬(r7=true) then some (.inr (.inr false)) else some (.inl ((IntKind.i64.wrap (v4+1)))) else none else none else some (.inr (.inl ()))
theorem g59l1_b_eq  (v1:List Int) (v2:List Int) (v3:Int) (v4:Int):X g59_S g59l1_cb (keepEnv [0,12,13,14] [(0,(.vs (rows v1))),(12,(.vs (rows v2))),(13,(.int .i64 v3)),(14,(.int .i64 v4))]) []=(impl_inDims_l1_b v1 v2 v3 v4).map (Sum.elim (fun s=>(TX.nrm,[(0,(.vs (rows v1))),(12,(.vs (rows v2))),(13,(.int .i64 v3)),(14,(.int .i64 s))],[])) g59l1_F):=by
  simp (maxSteps:=2000000) (maxDischargeDepth:=8) -implicitDefEqProofs [g59l1_cb,impl_inDims_l1_b] <;> (try simp only [map_to_bind,some_elim,g59l1_F])
def impl_inDims_l1 (v1:List Int) (v2:List Int) (v3:Int) (s:Int):Option ((Unit) ⊕ (Bool)):=loopO (fun s=>impl_inDims_l1_b v1 v2 v3 s) s
@[simp] theorem g59l1_eq (y0 y1 y2 y3):X g59_S g59l1_c [(0,(.vs (rows y0))),(12,(.vs (rows y1))),(13,(.int .i64 y2)),(14,(.int .i64 y3))] []=(impl_inDims_l1 y0 y1 y2 y3).map g59l1_F:=by
  exact loop_X _ _ _ _ (by intro r;first | (simp;done) | (rcases r with r | r <;> simp;done) | (rcases r with r | r | r <;> simp;done) | (rcases r with r | r | r | r <;> simp)) (fun s=>g59l1_b_eq  y0 y1 y2 s) y3
def impl_inDims (a_dims:List Int) (a_at:List Int):Option (Bool):=if ¬((a_at.length:Int)=(a_dims.length:Int)) then some false else (impl_inDims_l1 a_dims a_at ((a_at.length:Int)) 0).bind fun r8=>Sum.elim (fun u9=>some true) (fun u10=>some u10) r8
@[simp] def g59_O:Bool→TV×List Blk:=fun r=>((.bool r),[])
def g59_E (a:List Int×List Int):List TV:=[(.vs (rows a.1)),(.vs (rows a.2))]
theorem g59_run (a_dims:List Int) (a_at:List Int) :callFn (X g59_S) g59_tf (g59_E (a_dims,a_at)) []=(impl_inDims a_dims a_at).map g59_O:=by
  rw [callFn_eq]
  simp (maxSteps:=2000000) (maxDischargeDepth:=8) -implicitDefEqProofs [g59_tf,impl_inDims,g59_E] <;> (try simp only [map_to_bind,some_elim,g59_O])
def g59_r:Rule:=RlO g59_E (fun a=>impl_inDims a.1 a.2) g59_O
theorem g59_ok:RuleOk Tryz.prog 30 g59_r:=ok_rlo (S:=g59_S) (tf:=g59_tf) (SysOk.on ⟨g58_ok,trivial⟩ trivial) (trE_ok (ks:=[[0,12,13,14]]) Tryz.func30 (by kernel_rfl)) fun a=>g59_run a.1 a.2
@[simp] theorem g59_app (y0 y1):g59_r [(.vs (rows y0)),(.vs (rows y1))]=(impl_inDims y0 y1).map g59_O :=
  RlO_app (enc:=g59_E) (by intro a b h;simp [g59_E,Prod.ext_iff] at h ⊢;simp [h]) (y0,y1)
/-! impl.indexOf -/
def g56l1_cb:TC:=(sq [bn 11 .lss (.t 10) (.t 9)] [0,5,8,9,10,11] (.seq (.cond (.t 11) .skip (.keep (kp [(5,0)] [] 0) (.exit 0))) (.trim [0,5,8,9,10] (.seq (.block 1 (sq [mo 12 10,ia 13 1 8 10,ld 14 13,mo 6 12,mo 7 14] [0,5,6,7,8,9,10] (.ops [mo 15 5,mo 16 0,mo 17 6,ia 18 1 16 17,ld 19 18,bn 20 .mul (.t 15) (.t 19),mo 21 7,bn 22 .add (.t 20) (.t 21),mo 5 22]))) (.trim [0,5,8,9,10] (.after (.ops [bn 23 .add (.t 10) (ki 1),mo 10 23]) (kp [(0,0),(5,0),(8,0),(9,0),(10,0)] [] 0)))))))
def g56l1_c:TC:=.loop [0,5,8,9,10] g56l1_cb
def g56_tf:TFn:=⟨(sq [mk 4 (ki 0)] [0,1] (sq [mk 5 (ki 0)] [0,1,5] (.seq (sq [mo 8 1,le 9 8,mk 10 (ki 0)] [0,5,8,9,10] (.block 0 (.keep (kp [(0,0),(5,0),(8,0),(9,0),(10,0)] [] 0) g56l1_c))) (.trim [5] (.seq (.ops [mo 24 5,mo 4 24]) (.keep (kp [(4,0)] [] 0) .ret)))))),[.t 4]⟩
abbrev g56_S:=Sys.on [] []
@[reducible,simp] def g56l1_F:Int→Out:=(fun t=>(.ext 0,[(5,(.int .i64 t))],[]))
def impl_indexOf_l1_b (v1:List Int) (v3:List Int) (v4:Int) (v2:Int) (v5:Int):Option ((Int×Int) ⊕ (Int)):=if v5 < v4 then if 0≤v5 then (v3[(v5).toNat]?).bind fun x6=>if 0≤v5 then (v1[(v5).toNat]?).bind fun x7=>some (.inl ((IntKind.i64.wrap ((IntKind.i64.wrap (v2 * x7))+x6)),(IntKind.i64.wrap (v5+1)))) else none else none else some (.inr v2)
theorem g56l1_b_eq  (v1:List Int) (v3:List Int) (v4:Int) (v2:Int) (v5:Int):X g56_S g56l1_cb (keepEnv [0,5,8,9,10] [(0,(.vs (rows v1))),(5,(.int .i64 v2)),(8,(.vs (rows v3))),(9,(.int .i64 v4)),(10,(.int .i64 v5))]) []=(impl_indexOf_l1_b v1 v3 v4 v2 v5).map (Sum.elim (fun s=>(TX.nrm,[(0,(.vs (rows v1))),(5,(.int .i64 s.1)),(8,(.vs (rows v3))),(9,(.int .i64 v4)),(10,(.int .i64 s.2))],[])) g56l1_F):=by
  simp (maxSteps:=2000000) (maxDischargeDepth:=8) -implicitDefEqProofs [g56l1_cb,impl_indexOf_l1_b] <;> (try simp only [map_to_bind,some_elim,g56l1_F])
def impl_indexOf_l1 (v1:List Int) (v3:List Int) (v4:Int) (s:Int×Int):Option (Int):=loopO (fun s=>impl_indexOf_l1_b v1 v3 v4 s.1 s.2) s
@[simp] theorem g56l1_eq (y0 y1 y2 y3 y4):X g56_S g56l1_c [(0,(.vs (rows y0))),(5,(.int .i64 y1)),(8,(.vs (rows y2))),(9,(.int .i64 y3)),(10,(.int .i64 y4))] []=(impl_indexOf_l1 y0 y2 y3 (y1,y4)).map g56l1_F:=by
  exact loop_X _ _ _ _ (by intro r;first | (simp;done) | (rcases r with r | r <;> simp;done) | (rcases r with r | r | r <;> simp;done) | (rcases r with r | r | r | r <;> simp)) (fun s=>g56l1_b_eq  y0 y2 y3 s.1 s.2) (y1,y4)
def impl_indexOf (a_dims:List Int) (a_at:List Int):Option (Int):=(impl_indexOf_l1 a_dims a_at ((a_at.length:Int)) ((0,0))).bind fun r8=>some r8
@[simp] def g56_O:Int→TV×List Blk:=fun r=>((.int .i64 r),[])
def g56_E (a:List Int×List Int):List TV:=[(.vs (rows a.1)),(.vs (rows a.2))]
theorem g56_run (a_dims:List Int) (a_at:List Int) :callFn (X g56_S) g56_tf (g56_E (a_dims,a_at)) []=(impl_indexOf a_dims a_at).map g56_O:=by
  rw [callFn_eq]
  simp (maxSteps:=2000000) (maxDischargeDepth:=8) -implicitDefEqProofs [g56_tf,impl_indexOf,g56_E] <;> (try simp only [map_to_bind,some_elim,g56_O])
def g56_r:Rule:=RlO g56_E (fun a=>impl_indexOf a.1 a.2) g56_O
theorem g56_ok:RuleOk Tryz.prog 31 g56_r:=ok_rlo (S:=g56_S) (tf:=g56_tf) (SysOk.on trivial trivial) (trE_ok (ks:=[[0,5,8,9,10]]) Tryz.func31 (by kernel_rfl)) fun a=>g56_run a.1 a.2
@[simp] theorem g56_app (y0 y1):g56_r [(.vs (rows y0)),(.vs (rows y1))]=(impl_indexOf y0 y1).map g56_O :=
  RlO_app (enc:=g56_E) (by intro a b h;simp [g56_E,Prod.ext_iff] at h ⊢;simp [h]) (y0,y1)
/-! impl.IndexOf -/
def g57_tf:TFn:=⟨(sq [mk 4 (ki 0)] [0,1] (.seq (sq [mo 5 0,ca 6 23 [.t 5],nt 7 6,mo 8 7,⟨(some 9),(some (8,false)),(.mv (.t 0))⟩,⟨(some 10),(some (8,false)),(.mv (.t 1))⟩,⟨(some 11),(some (8,false)),(.call 30 [.t 9,.t 10])⟩,⟨(some 12),(some (8,false)),(.un .not (.t 11))⟩,pk 13 (.t 8) (kb true) (.t 12)] [0,1,13] (.cond (.t 13) (.seq (.ops [mk 4 (ki (-1))]) (.keep (kp [(4,0)] [] 0) .ret)) .skip)) (.trim [0,1] (.seq (.ops [mo 14 0,mo 15 1,ca 16 31 [.t 14,.t 15],mo 4 16]) (.keep (kp [(4,0)] [] 0) .ret))))),[.t 4]⟩
abbrev g57_S:=Sys.on [(23,g39_r),(30,g59_r),(31,g56_r)] []
def impl_IndexOf (a_dims:List Int) (a_at:List Int):Option (Int):=(impl_ValidDims a_dims).bind fun r1=>if ¬(r1=true) then some ((-1)) else (impl_inDims a_dims a_at).bind fun r2=>if ¬(r2=true) then some ((-1)) else (impl_indexOf a_dims a_at).bind fun r3=>some r3
@[simp] def g57_O:Int→TV×List Blk:=fun r=>((.int .i64 r),[])
def g57_E (a:List Int×List Int):List TV:=[(.vs (rows a.1)),(.vs (rows a.2))]
theorem g57_run (a_dims:List Int) (a_at:List Int) :callFn (X g57_S) g57_tf (g57_E (a_dims,a_at)) []=(impl_IndexOf a_dims a_at).map g57_O:=by
  rw [callFn_eq]
  simp (maxSteps:=2000000) (maxDischargeDepth:=8) -implicitDefEqProofs [g57_tf,impl_IndexOf,g57_E] <;> (try simp only [map_to_bind,some_elim,g57_O])
def g57_r:Rule:=RlO g57_E (fun a=>impl_IndexOf a.1 a.2) g57_O
theorem g57_ok:RuleOk Tryz.prog 14 g57_r:=ok_rlo (S:=g57_S) (tf:=g57_tf) (SysOk.on ⟨g39_ok,g59_ok,g56_ok,trivial⟩ trivial) (trE_ok (ks:=[]) Tryz.func14 (by kernel_rfl)) fun a=>g57_run a.1 a.2
@[simp] theorem g57_app (y0 y1):g57_r [(.vs (rows y0)),(.vs (rows y1))]=(impl_IndexOf y0 y1).map g57_O :=
  RlO_app (enc:=g57_E) (by intro a b h;simp [g57_E,Prod.ext_iff] at h ⊢;simp [h]) (y0,y1)
/-! laws.FnSpaces -/
def g47l2_cb:TC:=(.seq (sq [mo 105 15,mo 106 14,le 107 106,bn 108 .lss (.t 105) (.t 107)] [3,12,13,14,15,108] (.cond (.t 108) .skip (.keep (kp [(3,0),(12,0),(13,0)] [(0,2),(1,1),(2,1)] 0) (.exit 2)))) (.trim [3,12,13,14,15] (.seq (.block 3 (.seq (.draw [([],mo 111 14),([],mo 112 15),([0,1],ia 113 1 111 112),([0,1,2],ld 114 113),([0,1,2,3],bn 115 .lss (.t 114) (ki 0)),([0,1,2,3,4],mo 116 115),([0,1,2,3,4,5],⟨(some 117),(some (116,false)),(.mv (.t 14))⟩),([0,1,2,3,4,5],⟨(some 118),(some (116,false)),(.mv (.t 15))⟩),([0,1,2,3,4,5,6,7],⟨(some 119),(some (116,false)),(.iaddr 1 (.t 117) (.t 118))⟩),([0,1,2,3,4,5,6,7,8],⟨(some 120),(some (116,false)),(.load none (.t 119))⟩),([0,1,2,3,4,5],⟨(some 121),(some (116,false)),(.faddr 0 (.t 3))⟩),([0,1,2,3,4,5,10],⟨(some 122),(some (116,false)),(.load none (.t 121))⟩),([0,1,2,3,4,5],⟨(some 123),(some (116,false)),(.mv (.t 15))⟩),([0,1,2,3,4,5,10,11,12],⟨(some 124),(some (116,false)),(.iaddr 1 (.t 122) (.t 123))⟩),([0,1,2,3,4,5,10,11,12,13],⟨(some 125),(some (116,false)),(.load none (.t 124))⟩)] [⟨(some 126),(some (116,false)),(.bin .num .geq (.t 120) (.t 125))⟩,pk 127 (.t 116) (kb true) (.t 126)]) (.trim [3,12,13,14,15,127] (.cond (.t 127) (.seq (.ops [mk 2 (kb false)]) (.keep (kp [(2,0)] [] 0) .ret)) .skip)))) (.trim [3,12,13,14,15] (.after (.ops [mo 109 15,bn 110 .add (.t 109) (ki 1),mo 15 110]) (kp [(3,0),(12,0),(13,0),(14,1),(15,0)] [(0,2),(1,1),(2,1),(3,1)] 0))))))
def g47l2_c:TC:=.loop [3,12,13,14,15] g47l2_cb
def g47l1_cb:TC:=(.seq (sq [mo 82 13,mo 83 12,bn 84 .lss (.t 82) (.t 83)] [3,12,13,84] (.cond (.t 84) .skip (.keep (kp [(3,0),(12,0)] [(0,2),(1,1),(2,1)] 0) (.exit 0)))) (.trim [3,12,13] (.seq (.block 1 (sq [fa 87 0 3,ld 88 87,mo 89 13,ca 90 13 [.t 88,.t 89],mo 14 90] [3,12,13,14] (.seq (sq [mo 91 14,le 92 91,fa 93 0 3,ld 94 93,le 95 94,bn 96 .neq (.t 92) (.t 95),mo 97 96,⟨(some 98),(some (97,false)),(.faddr 0 (.t 3))⟩,⟨(some 99),(some (97,false)),(.load none (.t 98))⟩,⟨(some 100),(some (97,false)),(.mv (.t 14))⟩,⟨(some 101),(some (97,false)),(.call 14 [.t 99,.t 100])⟩,⟨(some 102),(some (97,false)),(.mv (.t 13))⟩,⟨(some 103),(some (97,false)),(.bin .num .neq (.t 101) (.t 102))⟩,pk 104 (.t 97) (kb true) (.t 103)] [3,12,13,14,104] (.cond (.t 104) (.seq (.ops [mk 2 (kb false)]) (.keep (kp [(2,0)] [] 0) .ret)) .skip)) (.trim [3,12,13,14] (sq [mk 15 (ki 0)] [3,12,13,14,15] (.block 2 (.keep (kp [(3,0),(12,0),(13,0),(14,1),(15,0)] [(0,2),(1,1),(2,1),(3,1)] 0) g47l2_c))))))) (.trim [3,12,13] (.after (.ops [mo 85 13,bn 86 .add (.t 85) (ki 1),mo 13 86]) (kp [(3,0),(12,0),(13,0)] [(0,2),(1,1),(2,1)] 0))))))
def g47l1_c:TC:=.loop [3,12,13] g47l1_cb
def g47_tf:TFn:=⟨(sq [mk 2 (kb false)] [0] (.seq (sq [mo 16 0,le 17 16,bn 18 .gtr (.t 17) (ki 1048576)] [0,18] (.cond (.t 18) (.seq (.ops [mk 2 (kb true)]) (.keep (kp [(2,0)] [] 0) .ret)) .skip)) (.trim [0] (sq [mo 19 0,ca 20 4 [.t 19],oo 3 (.alloc [.nils,.nils]),⟨none,none,(.store 2 (.t 3) (.t 20))⟩] [3] (sq [ln 21 2 3,ca 22 5 [.t 21],mo 4 22] [3,4] (sq [ln 23 2 3,ca 24 6 [.t 23],mo 5 24] [3,4,5] (.seq (sq [ln 25 2 3,ca 26 7 [.t 25],nt 27 26] [3,4,5,27] (.cond (.t 27) (.seq (.after (.ops [mo 28 4,oo 29 (.bin .str .eql (.t 28) (.c (.str []))),mo 30 29,⟨(some 31),(some (30,true)),(.mv (.t 5))⟩,⟨(some 32),(some (30,true)),(.bin .str .eql (.t 31) (.c (.str [])))⟩,pk 33 (.t 30) (.t 32) (kb false),mo 2 33]) (kp [(2,0)] [] 0)) (.keep (kp [(2,0)] [] 0) .ret)) .skip)) (.trim [3,4,5] (sq [mo 35 4,ca 36 8 [.t 35],mo 34 36,oo 37 (.ext (.t 34) 0),oo 38 (.ext (.t 34) 1),oo 6 (.alloc [.nils,.nils]),⟨none,none,(.store 2 (.t 6) (.t 37))⟩,mo 7 38] [3,5,6,7] (sq [mo 40 5,ca 41 9 [.t 40],mo 39 41,oo 42 (.ext (.t 39) 0),oo 43 (.ext (.t 39) 1),oo 8 (.alloc [.nils,.nils]),⟨none,none,(.store 2 (.t 8) (.t 42))⟩,mo 9 43] [3,6,7,8,9] (sq [ln 45 2 3,fa 46 0 3,ld 47 46,ca 48 10 [.t 45,.t 47],mo 44 48,oo 49 (.ext (.t 44) 0),oo 50 (.ext (.t 44) 1),oo 10 (.alloc [.nils,.nils]),⟨none,none,(.store 2 (.t 10) (.t 49))⟩,mo 11 50] [3,6,7,8,9,10,11] (.seq (sq [mo 51 7,nt 52 51,mo 53 52,⟨(some 54),(some (53,false)),(.mv (.t 9))⟩,⟨(some 55),(some (53,false)),(.un .not (.t 54))⟩,pk 56 (.t 53) (kb true) (.t 55),mo 57 56,⟨(some 58),(some (57,false)),(.mv (.t 11))⟩,⟨(some 59),(some (57,false)),(.bin .num .neq (.t 58) (ki 0))⟩,pk 60 (.t 57) (kb true) (.t 59),mo 61 60,⟨(some 62),(some (61,false)),(.load (some 2) (.t 6))⟩,⟨(some 63),(some (61,false)),(.load (some 2) (.t 3))⟩,⟨(some 64),(some (61,false)),(.call 11 [.t 62,.t 63])⟩,⟨(some 65),(some (61,false)),(.un .not (.t 64))⟩,pk 66 (.t 61) (kb true) (.t 65),mo 67 66,⟨(some 68),(some (67,false)),(.load (some 2) (.t 8))⟩,⟨(some 69),(some (67,false)),(.load (some 2) (.t 3))⟩,⟨(some 70),(some (67,false)),(.call 11 [.t 68,.t 69])⟩,⟨(some 71),(some (67,false)),(.un .not (.t 70))⟩,pk 72 (.t 67) (kb true) (.t 71),mo 73 72,⟨(some 74),(some (73,false)),(.load (some 2) (.t 10))⟩,⟨(some 75),(some (73,false)),(.load (some 2) (.t 3))⟩,⟨(some 76),(some (73,false)),(.call 11 [.t 74,.t 75])⟩,⟨(some 77),(some (73,false)),(.un .not (.t 76))⟩,pk 78 (.t 73) (kb true) (.t 77)] [3,78] (.cond (.t 78) (.seq (.ops [mk 2 (kb false)]) (.keep (kp [(2,0)] [] 0) .ret)) .skip)) (.trim [3] (sq [fa 79 0 3,ld 80 79,ca 81 12 [.t 80],mo 12 81] [3,12] (.seq (sq [mk 13 (ki 0)] [3,12,13] (.block 0 (.keep (kp [(3,0),(12,0),(13,0)] [(3,2),(1,1),(2,1)] 0) g47l1_c))) (.trim [3,12] (.seq (.after (.ops [mo 128 12,bn 129 .leq (.t 128) (ki 600),mo 130 129,⟨(some 131),(some (130,true)),(.faddr 0 (.t 3))⟩,⟨(some 132),(some (130,true)),(.load none (.t 131))⟩,⟨(some 133),(some (130,true)),(.mv (.t 12))⟩,⟨(some 134),(some (130,true)),(.call 13 [.t 132,.t 133])⟩,⟨(some 135),(some (130,true)),(.len false (.t 134))⟩,⟨(some 136),(some (130,true)),(.bin .num .eql (.t 135) (ki 0))⟩,pk 137 (.t 130) (.t 136) (kb false),mo 138 137,⟨(some 139),(some (138,true)),(.faddr 0 (.t 3))⟩,⟨(some 140),(some (138,true)),(.load none (.t 139))⟩,⟨(some 141),(some (138,true)),(.call 13 [.t 140,(ki (-1))])⟩,⟨(some 142),(some (138,true)),(.len false (.t 141))⟩,⟨(some 143),(some (138,true)),(.bin .num .eql (.t 142) (ki 0))⟩,pk 144 (.t 138) (.t 143) (kb false),mo 2 144]) (kp [(2,0)] [] 0)) (.keep (kp [(2,0)] [] 0) .ret)))))))))))))))))),[.t 2]⟩
abbrev g47_S:=Sys.on [(4,g21_r),(5,g30_r),(6,g40_r),(7,g36_r),(8,g31_r),(9,g41_r),(10,g33_r),(11,g42_r),(12,g37_r),(13,g46_r),(14,g57_r)] []
@[reducible,simp] def g47l2_F:(((List Int×List Int)×Int×Int) ⊕ (Bool))→Out:=(Sum.elim (fun t=>(.ext 2,[(3,(.ptr 0 0 0)),(12,(.int .i64 t.2.1)),(13,(.int .i64 t.2.2))],[(.live 2 [[(ow 1 t.1.1.length),(ow 2 t.1.2.length)]]),(ob 1 t.1.1),(ob 1 t.1.2)])) (fun t=>(.ret,[(2,(.bool t))],[])))
def laws_FnSpaces_l2_b (v17:List Int×List Int) (v18:Int) (v19:Int) (v20:List Int) (v21:Int):Option ((Int) ⊕ (((List Int×List Int)×Int×Int) ⊕ (Bool))):=if v21 < ((v20.length:Nat):Int) then if 0≤v21∧v21 < ((v20.length:Nat):Int) then (v20[(v21).toNat]?).bind fun x22=>if x22 < 0 then some (.inr (.inr false)) else if 0≤v21∧v21 < ((v20.length:Nat):Int) then (v20[(v21).toNat]?).bind fun x23=>if 0≤v21∧v21 < ((v17.1.length:Nat):Int) then (v17.1[(v21).toNat]?).bind fun x24=>if x23 ≥ x24 then some (.inr (.inr false)) else some (.inl ((IntKind.i64.wrap (v21+1)))) else none else none else none else some (.inr (.inl (v17,v18,v19)))
theorem g47l2_b_eq  (v17:List Int×List Int) (v18:Int) (v19:Int) (v20:List Int) (v21:Int):X g47_S g47l2_cb (keepEnv [3,12,13,14,15] [(3,(.ptr 0 0 0)),(12,(.int .i64 v18)),(13,(.int .i64 v19)),(14,(ow 3 v20.length)),(15,(.int .i64 v21))]) [(.live 2 [[(ow 1 v17.1.length),(ow 2 v17.2.length)]]),(ob 1 v17.1),(ob 1 v17.2),(ob 1 v20)]=(laws_FnSpaces_l2_b v17 v18 v19 v20 v21).map (Sum.elim (fun s=>(TX.nrm,[(3,(.ptr 0 0 0)),(12,(.int .i64 v18)),(13,(.int .i64 v19)),(14,(ow 3 v20.length)),(15,(.int .i64 s))],[(.live 2 [[(ow 1 v17.1.length),(ow 2 v17.2.length)]]),(ob 1 v17.1),(ob 1 v17.2),(ob 1 v20)])) g47l2_F):=by
  simp (maxSteps:=2000000) (maxDischargeDepth:=8) -implicitDefEqProofs [g47l2_cb,laws_FnSpaces_l2_b] <;> (try simp only [map_to_bind,some_elim,g47l2_F])
def laws_FnSpaces_l2 (v17:List Int×List Int) (v18:Int) (v19:Int) (v20:List Int) (s:Int):Option (((List Int×List Int)×Int×Int) ⊕ (Bool)):=loopO (fun s=>laws_FnSpaces_l2_b v17 v18 v19 v20 s) s
@[simp] theorem g47l2_eq (y0:List Int)(y1:List Int)(y2 y3)(y4:List Int)(y5){n1:Nat}(h1:n1=y4.length){n2:Nat}(h2:n2=y0.length){n3:Nat}(h3:n3=y1.length):X g47_S g47l2_c [(3,(.ptr 0 0 0)),(12,(.int .i64 y2)),(13,(.int .i64 y3)),(14,(ow 3 n1)),(15,(.int .i64 y5))] [(.live 2 [[(ow 1 n2),(ow 2 n3)]]),(ob 1 y0),(ob 1 y1),(ob 1 y4)]=(laws_FnSpaces_l2 ((y0,y1)) y2 y3 y4 y5).map g47l2_F:=by
  subst h1 h2 h3
  exact loop_X _ _ _ _ (by intro r;first | (simp;done) | (rcases r with r | r <;> simp;done) | (rcases r with r | r | r <;> simp;done) | (rcases r with r | r | r | r <;> simp)) (fun s=>g47l2_b_eq  ((y0,y1)) y2 y3 y4 s) y5
@[reducible,simp] def g47l1_F:(((List Int×List Int)×Int) ⊕ (Bool))→Out:=(Sum.elim (fun t=>(.ext 0,[(3,(.ptr 0 0 0)),(12,(.int .i64 t.2))],[(.live 2 [[(ow 1 t.1.1.length),(ow 2 t.1.2.length)]]),(ob 1 t.1.1),(ob 1 t.1.2)])) (fun t=>(.ret,[(2,(.bool t))],[])))
def laws_FnSpaces_l1_b (v12:List Int×List Int) (v13:Int) (v14:Int):Option (((List Int×List Int)×Int×Int) ⊕ (((List Int×List Int)×Int) ⊕ (Bool))):=if v14 < v13 then (impl_CoordsOf v12.1 v14).bind fun r15=>if ¬(((r15.length:Nat):Int)=((v12.1.length:Nat):Int)) then some (.inr (.inr false)) else (impl_IndexOf v12.1 r15).bind fun r16=>if ¬(r16=v14) then some (.inr (.inr false)) else (laws_FnSpaces_l2 v12 v13 v14 r15 0).bind fun r25=>Sum.elim (fun u26=>some (.inl (u26.1,u26.2.1,(IntKind.i64.wrap (u26.2.2+1))))) (fun u27=>some (.inr (.inr u27))) r25 else some (.inr (.inl (v12,v13)))
theorem g47l1_b_eq  (v12:List Int×List Int) (v13:Int) (v14:Int):X g47_S g47l1_cb (keepEnv [3,12,13] [(3,(.ptr 0 0 0)),(12,(.int .i64 v13)),(13,(.int .i64 v14))]) [(.live 2 [[(ow 1 v12.1.length),(ow 2 v12.2.length)]]),(ob 1 v12.1),(ob 1 v12.2)]=(laws_FnSpaces_l1_b v12 v13 v14).map (Sum.elim (fun s=>(TX.nrm,[(3,(.ptr 0 0 0)),(12,(.int .i64 s.2.1)),(13,(.int .i64 s.2.2))],[(.live 2 [[(ow 1 s.1.1.length),(ow 2 s.1.2.length)]]),(ob 1 s.1.1),(ob 1 s.1.2)])) g47l1_F):=by
  simp (maxSteps:=2000000) (maxDischargeDepth:=8) -implicitDefEqProofs [g47l1_cb,laws_FnSpaces_l1_b] <;> (try simp only [map_to_bind,some_elim,g47l1_F])
def laws_FnSpaces_l1  (s:(List Int×List Int)×Int×Int):Option (((List Int×List Int)×Int) ⊕ (Bool)):=loopO (fun s=>laws_FnSpaces_l1_b  s.1 s.2.1 s.2.2) s
@[simp] theorem g47l1_eq (y0:List Int)(y1:List Int)(y2 y3){n1:Nat}(h1:n1=y0.length){n2:Nat}(h2:n2=y1.length):X g47_S g47l1_c [(3,(.ptr 0 0 0)),(12,(.int .i64 y2)),(13,(.int .i64 y3))] [(.live 2 [[(ow 1 n1),(ow 2 n2)]]),(ob 1 y0),(ob 1 y1)]=(laws_FnSpaces_l1  ((y0,y1),y2,y3)).map g47l1_F:=by
  subst h1 h2
  exact loop_X _ _ _ _ (by intro r;first | (simp;done) | (rcases r with r | r <;> simp;done) | (rcases r with r | r | r <;> simp;done) | (rcases r with r | r | r | r <;> simp)) (fun s=>g47l1_b_eq   s.1 s.2.1 s.2.2) ((y0,y1),y2,y3)
def laws_FnSpaces (a_code:List Bt):Option (Bool):=if (a_code.length:Int) > 1048576 then some true else (spec_DrawEncodeSpace a_code).bind fun r1=>(impl_EncodeSpace r1).bind fun r2=>(impl_SpaceText r1).bind fun r3=>(spec_ValidSpace r1).bind fun r4=>if ¬(r4=true) then if r2=([]:Str) then some ((decide (r3=([]:Str)))) else some false else (impl_DecodeSpace r2).bind fun r5=>(impl_ReadSpace r3).bind fun r6=>(impl_ResizeSpace r1 r1.1).bind fun r7=>if ¬(r5.2=true) then some false else if ¬(r6.2=true) then some false else if ¬(r7.2=0) then some false else (spec_SameSpace r5.1 r1).bind fun r8=>if ¬(r8=true) then some false else (spec_SameSpace r6.1 r1).bind fun r9=>if ¬(r9=true) then some false else (spec_SameSpace r7.1 r1).bind fun r10=>if ¬(r10=true) then some false else (impl_ElementsOf r1.1).bind fun r11=>(laws_FnSpaces_l1 ((r1,r11,0))).bind fun r28=>Sum.elim (fun u29=>if u29.2≤600 then (impl_CoordsOf u29.1.1 u29.2).bind fun r31=>if ((r31.length:Nat):Int)=0 then (impl_CoordsOf u29.1.1 ((-1))).bind fun r32=>some ((decide (((r32.length:Nat):Int)=0))) else some false else some false) (fun u30=>some u30) r28
@[simp] def g47_O:Bool→TV×List Blk:=fun r=>((.bool r),[])
def g47_E (a:List Bt):List TV:=[(.vs (rows a))]
theorem g47_run (a_code:List Bt) :callFn (X g47_S) g47_tf (g47_E a_code) []=(laws_FnSpaces a_code).map g47_O:=by
  rw [callFn_eq]
  simp (maxSteps:=2000000) (maxDischargeDepth:=8) -implicitDefEqProofs [g47_tf,laws_FnSpaces,g47_E] <;> (try simp only [map_to_bind,some_elim,g47_O])
def laws_FnSpaces_r:Rule:=RlO g47_E (fun a=>laws_FnSpaces a) g47_O
theorem laws_FnSpaces_ok:RuleOk Tryz.prog 3 laws_FnSpaces_r:=ok_rlo (S:=g47_S) (tf:=g47_tf) (SysOk.on ⟨g21_ok,g30_ok,g40_ok,g36_ok,g31_ok,g41_ok,g33_ok,g42_ok,g37_ok,g46_ok,g57_ok,trivial⟩ trivial) (trE_ok (ks:=[[3,12,13],[3,12,13,14,15],[15]]) Tryz.func3 (by kernel_rfl)) fun a=>g47_run a
@[simp] theorem laws_FnSpaces_app (y0):laws_FnSpaces_r [(.vs (rows y0))]=(laws_FnSpaces y0).map g47_O :=
  RlO_app (enc:=g47_E) (by intro a b h;simp [g47_E,Prod.ext_iff] at h ⊢;simp [h]) y0
end
end Go.Proofs.TM
