/- Functions of the program, as functions of their data: written by program. -/
import Derived.Test.YtcmhbjnmjfhgaaaGreatDoorSP0
namespace Go.Proofs.TM
open Go Go.Proofs
set_option linter.unusedVariables false
set_option linter.unusedSimpArgs false
set_option maxHeartbeats 1000000
attribute [-simp] Option.map_bind strV_some
attribute [simp] guardOn_bool sA_bslice Function.comp_def
noncomputable section
/-! (*impl.decoder).byte -/
def g16_tf:TFn:=⟨(sq [mk 2 (ki 0)] [0] (.seq (.ops [mo 3 0,oo 4 (.callM 126 0 [0] [.t 3,ki 1]),mo 2 4]) (.keep (kp [(2,0)] [(0,0)] 1) .ret))),[.t 2]⟩
abbrev g16_S:=Sys.on [] [((126,0),(1,g5_r))]
def impl_decoder_byte_od0 (a1:Str×Bool):Option ((Str×Bool)×Int):=(impl_decoder_number_o1a a1 1).bind fun r1=>some (r1.1,r1.2)
@[simp] def g16_O:((Str×Bool)×Int)→TV×List Blk:=fun r=>((.int .i64 r.2),[(.live 2 [[(.str r.1.1),(.bool r.1.2)]])])
abbrev g16_T:=(Str×Bool)
def g16_E (a:g16_T):List TV:=[(.ptr 0 0 0)]
def g16_B (a:g16_T):List Blk:=[(.live 2 [[(.str a.1),(.bool a.2)]])]
theorem g16_run (a1:Str×Bool) :callFn (X g16_S) g16_tf (g16_E a1) (g16_B a1)=(impl_decoder_byte_od0 a1).map g16_O:=by
  rw [callFn_eq]
  simp (maxSteps:=2000000) (maxDischargeDepth:=8) -implicitDefEqProofs [g16_tf,impl_decoder_byte_od0,g16_E,g16_B] <;> (try simp only [map_to_bind,some_elim,g16_O])
def g16_r:MRule:=RmO g16_E g16_B (fun a=>impl_decoder_byte_od0 a) g16_O
theorem g16_ok:MRuleOk Tryz.prog 78 1 g16_r:=ok_rmo (S:=g16_S) (tf:=g16_tf) (SysOk.on trivial ⟨g5_ok,trivial⟩) (trE_ok (ks:=[]) Tryz.func78 (by kernel_rfl)) (by rfl) (fun _=>by simp [g16_B]) (fun _=>by simp) fun a=>g16_run a
@[simp] theorem g16_app (y0 y1):g16_r [(.ptr 0 0 0)] [(.live 2 [[(.str y0),(.bool y1)]])]=(impl_decoder_byte_od0 ((y0,y1))).map g16_O:=by
  exact RmO_app (enc:=g16_E) (encB:=g16_B) (by intro a b h h2;simp [g16_E,g16_B,Prod.ext_iff] at h h2 ⊢;simp [h,h2]) ((y0,y1))
/-! (*impl.decoder).space -/
def g9p2_c:TC:=(.after (.ops [fa 30 1 3,ld 31 30,mo 32 5,oo 33 (.bslice [(.int .i64 0)] 1 [(0,(.t 32))]),oo 34 (.append 2 1 8 (.t 31) (.t 33)),fa 35 1 3,⟨none,none,(.store 1 (.t 35) (.t 34))⟩]) (kp [(0,0),(2,0),(3,0),(4,0)] [(0,0),(1,2),(2,2),(3,1),(6,1)] 1))
def g9l1_cb:TC:=(.seq (sq [mo 8 4,bn 9 .gtr (.t 8) (ki 0),mo 10 9,⟨(some 11),(some (10,true)),(.mv (.t 0))⟩,⟨(some 12),(some (10,true)),(.nilchk (.t 11))⟩,⟨(some 13),(some (10,true)),(.faddr 1 (.t 12))⟩,⟨(some 14),(some (10,true)),(.load none (.t 13))⟩,⟨(some 15),(some (10,true)),(.un .not (.t 14))⟩,pk 16 (.t 10) (.t 15) (kb false)] [0,2,3,4,16] (.cond (.t 16) .skip (.keep (kp [(2,0),(3,0)] [(0,0),(1,2),(2,2),(3,1),(4,1)] 1) (.exit 0)))) (.trim [0,2,3,4] (.seq (.block 1 (.seq (.drawF [(none,fa 19 0 3),(none,ld 20 19),(none,mo 21 0),(some [19,20],oo 22 (.callM 78 0 [0] [.t 21])),(some [19,20],oo 23 (.bslice [(.int .i64 0)] 1 [(0,(.t 22))]))] [oo 24 (.append 2 1 8 (.t 20) (.t 23)),fa 25 0 3,⟨none,none,(.store 1 (.t 25) (.t 24))⟩]) (.trim [0,2,3,4] (sq [mo 26 0,oo 27 (.callM 78 0 [0] [.t 26]),mo 5 27] [0,2,3,4,5] (.seq (sq [mo 28 5,bn 29 .eql (.t 28) (ki 255)] [0,2,3,4,5,29] (.cond (.t 29) (.after (.ops [mk 5 (ki (-1))]) (kp [(0,0),(2,0),(3,0),(4,0),(5,0)] [(0,0),(1,2),(2,2),(6,1),(4,1)] 1)) (.keep (kp [(0,0),(2,0),(3,0),(4,0),(5,0)] [(0,0),(1,2),(2,2),(6,1),(4,1)] 1) .skip))) (.trim [0,2,3,4,5] g9p2_c)))))) (.trim [0,2,3,4] (.after (.ops [mo 17 4,bn 18 .sub (.t 17) (ki 1),mo 4 18]) (kp [(0,0),(2,0),(3,0),(4,0)] [(0,0),(1,2),(2,2),(3,1),(4,1)] 1))))))
def g9l1_c:TC:=.loop [0,2,3,4] g9l1_cb
def g9_tf:TFn:=⟨(sq [oo 2 (.alloc [.nils,.nils])] [0,2] (sq [oo 3 (.alloc [.nils,.nils])] [0,2,3] (.seq (sq [mo 6 0,oo 7 (.callM 78 0 [0] [.t 6]),mo 4 7] [0,2,3,4] (.block 0 (.keep (kp [(0,0),(2,0),(3,0),(4,0)] [(0,0),(1,2),(2,2),(1000,1),(1001,1)] 1) g9l1_c))) (.trim [2,3] (.seq (.ops [ln 36 2 3,⟨none,none,(.store 2 (.t 2) (.t 36))⟩]) (.keep (kp [(2,0)] [(0,0),(1,2),(3,1),(4,1)] 1) .ret)))))),[.cell 2 (some 2)]⟩
abbrev g9_S:=Sys.on [] [((78,0),(1,g16_r))]
@[reducible,simp] def g9p2_F:((Str×Bool)×(List Int×List Int)×Int)→Out:=(fun t=>(.nrm,[(0,(.ptr 0 0 0)),(2,(.ptr 1 0 0)),(3,(.ptr 2 0 0)),(4,(.int .i64 t.2.2))],[(.live 2 [[(.str t.1.1),(.bool t.1.2)]]),(.live 2 [[.es,.es]]),(.live 2 [[(ow 3 t.2.1.1.length),(ow 4 t.2.1.2.length)]]),(ob 1 t.2.1.1),(ob 1 t.2.1.2)]))
def impl_decoder_space_od0_p2 (v8:Str×Bool) (v9:List Int×List Int) (v10:Int) (v11:Int):Option ((Str×Bool)×(List Int×List Int)×Int):=(appL 8 v9.2 ((lit [v11]:List Int))).bind fun l12=>some ((v8,(v9.1,l12),v10))
@[simp] theorem g9p2_eq (y0 y1)(y2:List Int)(y3:List Int)(y4 y5){n1:Nat}(h1:n1=y2.length){n2:Nat}(h2:n2=y3.length):X g9_S g9p2_c [(0,(.ptr 0 0 0)),(2,(.ptr 1 0 0)),(3,(.ptr 2 0 0)),(4,(.int .i64 y4)),(5,(.int .i64 y5))] [(.live 2 [[(.str y0),(.bool y1)]]),(.live 2 [[.es,.es]]),(.live 2 [[(ow 3 n1),(ow 4 n2)]]),(ob 1 y2),(ob 1 y3)]=(impl_decoder_space_od0_p2 ((y0,y1)) ((y2,y3)) y4 y5).map g9p2_F:=by
  subst h1 h2
  simp (maxSteps:=2000000) (maxDischargeDepth:=8) -implicitDefEqProofs [g9p2_c,impl_decoder_space_od0_p2,bslV_lit (α:=Int) (zs:=[(.int .i64 0)])] <;> (try simp only [map_to_bind,some_elim,g9p2_F])
@[reducible,simp] def g9l1_F:((Str×Bool)×(List Int×List Int))→Out:=(fun t=>(.ext 0,[(2,(.ptr 1 0 0)),(3,(.ptr 2 0 0))],[(.live 2 [[(.str t.1.1),(.bool t.1.2)]]),(.live 2 [[.es,.es]]),(.live 2 [[(ow 3 t.2.1.length),(ow 4 t.2.2.length)]]),(ob 1 t.2.1),(ob 1 t.2.2)]))
def impl_decoder_space_od0_l1_b (v2:Str×Bool) (v3:List Int×List Int) (v4:Int):Option (((Str×Bool)×(List Int×List Int)×Int) ⊕ ((Str×Bool)×(List Int×List Int))):=if v4 > 0 then if ¬(v2.2=true) then (impl_decoder_byte_od0 v2).bind fun r5=>(appL 8 v3.1 ((lit [r5.2]:List Int))).bind fun l6=>(impl_decoder_byte_od0 r5.1).bind fun r7=>if r7.2=255 then (impl_decoder_space_od0_p2 r7.1 ((l6,v3.2)) v4 ((-1))).bind fun r13=>some (.inl (r13.1,r13.2.1,(IntKind.i64.wrap (r13.2.2 - 1)))) else (impl_decoder_space_od0_p2 r7.1 ((l6,v3.2)) v4 r7.2).bind fun r14=>some (.inl (r14.1,r14.2.1,(IntKind.i64.wrap (r14.2.2 - 1)))) else some (.inr (v2,v3)) else some (.inr (v2,v3))
theorem g9l1_b_eq  (v2:Str×Bool) (v3:List Int×List Int) (v4:Int):X g9_S g9l1_cb (keepEnv [0,2,3,4] [(0,(.ptr 0 0 0)),(2,(.ptr 1 0 0)),(3,(.ptr 2 0 0)),(4,(.int .i64 v4))]) [(.live 2 [[(.str v2.1),(.bool v2.2)]]),(.live 2 [[.es,.es]]),(.live 2 [[(ow 3 v3.1.length),(ow 4 v3.2.length)]]),(ob 1 v3.1),(ob 1 v3.2)]=(impl_decoder_space_od0_l1_b v2 v3 v4).map (Sum.elim (fun s=>(TX.nrm,[(0,(.ptr 0 0 0)),(2,(.ptr 1 0 0)),(3,(.ptr 2 0 0)),(4,(.int .i64 s.2.2))],[(.live 2 [[(.str s.1.1),(.bool s.1.2)]]),(.live 2 [[.es,.es]]),(.live 2 [[(ow 3 s.2.1.1.length),(ow 4 s.2.1.2.length)]]),(ob 1 s.2.1.1),(ob 1 s.2.1.2)])) g9l1_F):=by
  simp (maxSteps:=2000000) (maxDischargeDepth:=8) -implicitDefEqProofs [g9l1_cb,impl_decoder_space_od0_l1_b,bslV_lit (α:=Int) (zs:=[(.int .i64 0)])] <;> (try simp only [map_to_bind,some_elim,g9l1_F])
def impl_decoder_space_od0_l1  (s:(Str×Bool)×(List Int×List Int)×Int):Option ((Str×Bool)×(List Int×List Int)):=loopO (fun s=>impl_decoder_space_od0_l1_b  s.1 s.2.1 s.2.2) s
@[simp] theorem g9l1_eq (y0 y1)(y2:List Int)(y3:List Int)(y4){n1:Nat}(h1:n1=y2.length){n2:Nat}(h2:n2=y3.length):X g9_S g9l1_c [(0,(.ptr 0 0 0)),(2,(.ptr 1 0 0)),(3,(.ptr 2 0 0)),(4,(.int .i64 y4))] [(.live 2 [[(.str y0),(.bool y1)]]),(.live 2 [[.es,.es]]),(.live 2 [[(ow 3 n1),(ow 4 n2)]]),(ob 1 y2),(ob 1 y3)]=(impl_decoder_space_od0_l1  ((y0,y1),(y2,y3),y4)).map g9l1_F:=by
  subst h1 h2
  exact loop_X _ _ _ _ (by intro r;first | (simp;done) | (rcases r with r | r <;> simp;done) | (rcases r with r | r | r <;> simp;done) | (rcases r with r | r | r | r <;> simp)) (fun s=>g9l1_b_eq   s.1 s.2.1 s.2.2) ((y0,y1),(y2,y3),y4)
@[simp] theorem g9l1_eq_1x0_1x1 (y0 y1 y2):X g9_S g9l1_c [(0,(.ptr 0 0 0)),(2,(.ptr 1 0 0)),(3,(.ptr 2 0 0)),(4,(.int .i64 y2))] [(.live 2 [[(.str y0),(.bool y1)]]),(.live 2 [[.es,.es]]),(.live 2 [[.es,.es]]),.dead,.dead]=(impl_decoder_space_od0_l1  ((y0,y1),(([]:List Int),([]:List Int)),y2)).map g9l1_F :=
  g9l1_eq  y0 y1 ([]:List Int) ([]:List Int) y2 rfl rfl
def impl_decoder_space_od0 (a1:Str×Bool):Option ((Str×Bool)×(List Int×List Int)):=(impl_decoder_byte_od0 a1).bind fun r1=>(impl_decoder_space_od0_l1 ((r1.1,(([]:List Int),([]:List Int)),r1.2))).bind fun r15=>some (r15.1,r15.2)
@[simp] def g9_O:((Str×Bool)×(List Int×List Int))→TV×List Blk:=fun r=>((.agg [(ow 2 r.2.1.length),(ow 3 r.2.2.length)]),[(.live 2 [[(.str r.1.1),(.bool r.1.2)]]),(.live 2 [[(ow 2 r.2.1.length),(ow 3 r.2.2.length)]]),(ob 1 r.2.1),(ob 1 r.2.2)])
abbrev g9_T:=(Str×Bool)
def g9_E (a:g9_T):List TV:=[(.ptr 0 0 0)]
def g9_B (a:g9_T):List Blk:=[(.live 2 [[(.str a.1),(.bool a.2)]])]
theorem g9_run (a1:Str×Bool) :callFn (X g9_S) g9_tf (g9_E a1) (g9_B a1)=(impl_decoder_space_od0 a1).map g9_O:=by
  rw [callFn_eq]
  simp (maxSteps:=2000000) (maxDischargeDepth:=8) -implicitDefEqProofs [g9_tf,impl_decoder_space_od0,g9_E,g9_B,bslV_lit (α:=Int) (zs:=[(.int .i64 0)])] <;> (try simp only [map_to_bind,some_elim,g9_O])
def g9_r:MRule:=RmO g9_E g9_B (fun a=>impl_decoder_space_od0 a) g9_O
theorem g9_ok:MRuleOk Tryz.prog 38 1 g9_r:=ok_rmo (S:=g9_S) (tf:=g9_tf) (SysOk.on trivial ⟨g16_ok,trivial⟩) (trE_ok (ks:=[[0,2,3,4],[5,2000000,0,0,0,0,3,19,20,3,19,20]]) Tryz.func38 (by kernel_rfl)) (by rfl) (fun _=>by simp [g9_B]) (fun _=>by simp) fun a=>g9_run a
@[simp] theorem g9_app (y0 y1):g9_r [(.ptr 0 0 0)] [(.live 2 [[(.str y0),(.bool y1)]])]=(impl_decoder_space_od0 ((y0,y1))).map g9_O:=by
  exact RmO_app (enc:=g9_E) (encB:=g9_B) (by intro a b h h2;simp [g9_E,g9_B,Prod.ext_iff] at h h2 ⊢;simp [h,h2]) ((y0,y1))
/-! impl.allWithin.1 -/
def g27_tf:TFn:=⟨(sq [mk 4 (kb false)] [0,1,2] (.seq (.ops [mo 5 0,ld 6 1,ld 7 2,ca 8 79 [.t 5,.t 6,.t 7],nt 9 8,mo 4 9]) (.keep (kp [(4,0)] [] 0) .ret))),[.t 4]⟩
abbrev g27_S:=Sys.on [(79,g60_r)] []
def impl_allWithin_c1 (a_n:Int) (a_p:Int) (a_p':Int):Option (Bool):=(impl_within a_n a_p a_p').bind fun r1=>some ((!r1))
@[simp] def g27_O:Bool→TV×List Blk:=fun r=>((.bool r),[])
def g27_E (a:Int×Int×Int):List TV:=[(.int .i64 a.1),(.vp [(.int .i64 a.2.1)]),(.vp [(.int .i64 a.2.2)])]
theorem g27_run (a_n:Int) (a_p:Int) (a_p':Int) :callFn (X g27_S) g27_tf (g27_E (a_n,a_p,a_p')) []=(impl_allWithin_c1 a_n a_p a_p').map g27_O:=by
  rw [callFn_eq]
  simp (maxSteps:=2000000) (maxDischargeDepth:=8) -implicitDefEqProofs [g27_tf,impl_allWithin_c1,g27_E] <;> (try simp only [map_to_bind,some_elim,g27_O])
def g27_r:Rule:=RlO g27_E (fun a=>impl_allWithin_c1 a.1 a.2.1 a.2.2) g27_O
theorem g27_ok:RuleOk Tryz.prog 137 g27_r:=ok_rlo (S:=g27_S) (tf:=g27_tf) (SysOk.on ⟨g60_ok,trivial⟩ trivial) (trE_ok (ks:=[]) Tryz.func137 (by kernel_rfl)) fun a=>g27_run a.1 a.2.1 a.2.2
@[simp] theorem g27_app (y0 y1 y2):g27_r [(.int .i64 y0),(.vp [(.int .i64 y1)]),(.vp [(.int .i64 y2)])]=(impl_allWithin_c1 y0 y1 y2).map g27_O :=
  RlO_app (enc:=g27_E) (by intro a b h;simp [g27_E,Prod.ext_iff] at h ⊢;simp [h]) (y0,y1,y2)
/-! slices.IndexFunc[[]int64,int64] -/
def g1l1_cb:TC:=(sq [bn 9 .lss (.t 8) (.t 7)] [0,1,7,8,9] (.seq (.cond (.t 9) .skip (.keep (kp [] [] 0) (.exit 0))) (.trim [0,1,7,8] (.seq (.block 1 (sq [mo 10 8,mo 5 10] [0,1,5,7,8] (sq [mo 11 1,mo 12 0,mo 13 5,ia 14 1 12 13,ld 15 14,oo 16 (.callv (.t 11) [.t 15])] [0,1,5,7,8,16] (.cond (.t 16) (.seq (.ops [mo 17 5,mo 4 17]) (.keep (kp [(4,0)] [] 0) .ret)) .skip)))) (.trim [0,1,7,8] (.after (.ops [bn 18 .add (.t 8) (ki 1),mo 8 18]) (kp [(0,0),(1,0),(7,0),(8,0)] [] 0)))))))
def g1l1_c:TC:=.loop [0,1,7,8] g1l1_cb
def g1_tf:TFn:=⟨(sq [mk 4 (ki 0)] [0,1] (.seq (sq [mo 6 0,le 7 6,mk 8 (ki 0)] [0,1,7,8] (.block 0 (.keep (kp [(0,0),(1,0),(7,0),(8,0)] [] 0) g1l1_c))) (.trim [] (.seq (.ops [mk 4 (ki (-1))]) (.keep (kp [(4,0)] [] 0) .ret))))),[.t 4]⟩
abbrev g1_S:=Sys.on [(137,g27_r)] []
@[reducible,simp] def g1l1_F:((Unit) ⊕ (Int))→Out:=(Sum.elim (fun t=>(.ext 0,[],[])) (fun t=>(.ret,[(4,(.int .i64 t))],[])))
def slices_IndexFunc_int64_int64__allWithin_c1_l1_b (v1:List Int) (v2:Int) (v3:Int) (v4:Int) (v5:Int):Option ((Int) ⊕ ((Unit) ⊕ (Int))):=if v5 < v4 then if 0≤v5 then (v1[(v5).toNat]?).bind fun x6=>(impl_allWithin_c1 x6 v2 v3).bind fun r7=>if r7=true then some (.inr (.inr v5)) else some (.inl ((IntKind.i64.wrap (v5+1)))) else none else some (.inr (.inl ()))
theorem g1l1_b_eq  (v1:List Int) (v2:Int) (v3:Int) (v4:Int) (v5:Int):X g1_S g1l1_cb (keepEnv [0,1,7,8] [(0,(.vs (rows v1))),(1,(.fn 137 [] [(.vp [(.int .i64 v2)]),(.vp [(.int .i64 v3)])])),(7,(.int .i64 v4)),(8,(.int .i64 v5))]) []=(slices_IndexFunc_int64_int64__allWithin_c1_l1_b v1 v2 v3 v4 v5).map (Sum.elim (fun s=>(TX.nrm,[(0,(.vs (rows v1))),(1,(.fn 137 [] [(.vp [(.int .i64 v2)]),(.vp [(.int .i64 v3)])])),(7,(.int .i64 v4)),(8,(.int .i64 s))],[])) g1l1_F):=by
  simp (maxSteps:=2000000) (maxDischargeDepth:=8) -implicitDefEqProofs [g1l1_cb,slices_IndexFunc_int64_int64__allWithin_c1_l1_b] <;> (try simp only [map_to_bind,some_elim,g1l1_F])
def slices_IndexFunc_int64_int64__allWithin_c1_l1 (v1:List Int) (v2:Int) (v3:Int) (v4:Int) (s:Int):Option ((Unit) ⊕ (Int)):=loopO (fun s=>slices_IndexFunc_int64_int64__allWithin_c1_l1_b v1 v2 v3 v4 s) s
@[simp] theorem g1l1_eq (y0 y1 y2 y3 y4):X g1_S g1l1_c [(0,(.vs (rows y0))),(1,(.fn 137 [] [(.vp [(.int .i64 y1)]),(.vp [(.int .i64 y2)])])),(7,(.int .i64 y3)),(8,(.int .i64 y4))] []=(slices_IndexFunc_int64_int64__allWithin_c1_l1 y0 y1 y2 y3 y4).map g1l1_F:=by
  exact loop_X _ _ _ _ (by intro r;first | (simp;done) | (rcases r with r | r <;> simp;done) | (rcases r with r | r | r <;> simp;done) | (rcases r with r | r | r | r <;> simp)) (fun s=>g1l1_b_eq  y0 y1 y2 y3 s) y4
def slices_IndexFunc_int64_int64__allWithin_c1 (a_s:List Int) (a_f:Int) (a_f':Int):Option (Int):=(slices_IndexFunc_int64_int64__allWithin_c1_l1 a_s a_f a_f' ((a_s.length:Int)) 0).bind fun r8=>Sum.elim (fun u9=>some ((-1))) (fun u10=>some u10) r8
@[simp] def g1_O:Int→TV×List Blk:=fun r=>((.int .i64 r),[])
def g1_E (a:List Int×Int×Int):List TV:=[(.vs (rows a.1)),(.fn 137 [] [(.vp [(.int .i64 a.2.1)]),(.vp [(.int .i64 a.2.2)])])]
theorem g1_run (a_s:List Int) (a_f:Int) (a_f':Int) :callFn (X g1_S) g1_tf (g1_E (a_s,a_f,a_f')) []=(slices_IndexFunc_int64_int64__allWithin_c1 a_s a_f a_f').map g1_O:=by
  rw [callFn_eq]
  simp (maxSteps:=2000000) (maxDischargeDepth:=8) -implicitDefEqProofs [g1_tf,slices_IndexFunc_int64_int64__allWithin_c1,g1_E] <;> (try simp only [map_to_bind,some_elim,g1_O])
def g1_r:Rule:=RlO g1_E (fun a=>slices_IndexFunc_int64_int64__allWithin_c1 a.1 a.2.1 a.2.2) g1_O
theorem g1_ok:RuleOk Tryz.prog 179 g1_r:=ok_rlo (S:=g1_S) (tf:=g1_tf) (SysOk.on ⟨g27_ok,trivial⟩ trivial) (trE_ok (ks:=[[0,1,7,8]]) Tryz.func179 (by kernel_rfl)) fun a=>g1_run a.1 a.2.1 a.2.2
@[simp] theorem g1_app (y0 y1 y2):g1_r [(.vs (rows y0)),(.fn 137 [] [(.vp [(.int .i64 y1)]),(.vp [(.int .i64 y2)])])]=(slices_IndexFunc_int64_int64__allWithin_c1 y0 y1 y2).map g1_O :=
  RlO_app (enc:=g1_E) (by intro a b h;simp [g1_E,Prod.ext_iff] at h ⊢;simp [h]) (y0,y1,y2)
/-! slices.ContainsFunc[[]int64,int64] -/
def g0_tf:TFn:=⟨(sq [mk 4 (kb false)] [0,1] (.seq (.ops [mo 5 0,mo 6 1,ca 7 179 [.t 5,.t 6],bn 8 .geq (.t 7) (ki 0),mo 4 8]) (.keep (kp [(4,0)] [] 0) .ret))),[.t 4]⟩
abbrev g0_S:=Sys.on [(179,g1_r)] []
def slices_ContainsFunc_int64_int64__allWithin_c1 (a_s:List Int) (a_f:Int) (a_f':Int):Option (Bool):=(slices_IndexFunc_int64_int64__allWithin_c1 a_s a_f a_f').bind fun r1=>some ((decide (r1 ≥ 0)))
@[simp] def g0_O:Bool→TV×List Blk:=fun r=>((.bool r),[])
def g0_E (a:List Int×Int×Int):List TV:=[(.vs (rows a.1)),(.fn 137 [] [(.vp [(.int .i64 a.2.1)]),(.vp [(.int .i64 a.2.2)])])]
theorem g0_run (a_s:List Int) (a_f:Int) (a_f':Int) :callFn (X g0_S) g0_tf (g0_E (a_s,a_f,a_f')) []=(slices_ContainsFunc_int64_int64__allWithin_c1 a_s a_f a_f').map g0_O:=by
  rw [callFn_eq]
  simp (maxSteps:=2000000) (maxDischargeDepth:=8) -implicitDefEqProofs [g0_tf,slices_ContainsFunc_int64_int64__allWithin_c1,g0_E] <;> (try simp only [map_to_bind,some_elim,g0_O])
def g0_r:Rule:=RlO g0_E (fun a=>slices_ContainsFunc_int64_int64__allWithin_c1 a.1 a.2.1 a.2.2) g0_O
theorem g0_ok:RuleOk Tryz.prog 136 g0_r:=ok_rlo (S:=g0_S) (tf:=g0_tf) (SysOk.on ⟨g1_ok,trivial⟩ trivial) (trE_ok (ks:=[]) Tryz.func136 (by kernel_rfl)) fun a=>g0_run a.1 a.2.1 a.2.2
@[simp] theorem g0_app (y0 y1 y2):g0_r [(.vs (rows y0)),(.fn 137 [] [(.vp [(.int .i64 y1)]),(.vp [(.int .i64 y2)])])]=(slices_ContainsFunc_int64_int64__allWithin_c1 y0 y1 y2).map g0_O :=
  RlO_app (enc:=g0_E) (by intro a b h;simp [g0_E,Prod.ext_iff] at h ⊢;simp [h]) (y0,y1,y2)
/-! impl.allWithin -/
def g44_tf:TFn:=⟨(sq [bx 4 1,bx 5 2,mk 6 (kb false)] [0,4,5] (.seq (.ops [mo 7 0,oo 8 (.mkfn 137 [] [.t 4,.t 5]),ca 9 136 [.t 7,.t 8],nt 10 9,mo 6 10]) (.keep (kp [(6,0)] [] 0) .ret))),[.t 6]⟩
abbrev g44_S:=Sys.on [(136,g0_r)] []
def impl_allWithin (a_list:List Int) (a_low:Int) (a_high:Int):Option (Bool):=(slices_ContainsFunc_int64_int64__allWithin_c1 a_list a_low a_high).bind fun r1=>some ((!r1))
@[simp] def g44_O:Bool→TV×List Blk:=fun r=>((.bool r),[])
def g44_E (a:List Int×Int×Int):List TV:=[(.vs (rows a.1)),(.int .i64 a.2.1),(.int .i64 a.2.2)]
theorem g44_run (a_list:List Int) (a_low:Int) (a_high:Int) :callFn (X g44_S) g44_tf (g44_E (a_list,a_low,a_high)) []=(impl_allWithin a_list a_low a_high).map g44_O:=by
  rw [callFn_eq]
  simp (maxSteps:=2000000) (maxDischargeDepth:=8) -implicitDefEqProofs [g44_tf,impl_allWithin,g44_E] <;> (try simp only [map_to_bind,some_elim,g44_O])
def g44_r:Rule:=RlO g44_E (fun a=>impl_allWithin a.1 a.2.1 a.2.2) g44_O
theorem g44_ok:RuleOk Tryz.prog 89 g44_r:=ok_rlo (S:=g44_S) (tf:=g44_tf) (SysOk.on ⟨g0_ok,trivial⟩ trivial) (trE_ok (ks:=[]) Tryz.func89 (by kernel_rfl)) fun a=>g44_run a.1 a.2.1 a.2.2
@[simp] theorem g44_app (y0 y1 y2):g44_r [(.vs (rows y0)),(.int .i64 y1),(.int .i64 y2)]=(impl_allWithin y0 y1 y2).map g44_O :=
  RlO_app (enc:=g44_E) (by intro a b h;simp [g44_E,Prod.ext_iff] at h ⊢;simp [h]) (y0,y1,y2)
/-! impl.product -/
def g56l1_cb:TC:=(sq [bn 9 .lss (.t 8) (.t 7)] [3,6,7,8,9] (.seq (.cond (.t 9) .skip (.keep (kp [(3,0)] [] 0) (.exit 0))) (.trim [3,6,7,8] (.seq (.block 1 (sq [ia 10 1 6 8,ld 11 10,mo 5 11] [3,5,6,7,8] (.ops [mo 12 3,mo 13 5,bn 14 .mul (.t 12) (.t 13),mo 3 14]))) (.trim [3,6,7,8] (.after (.ops [bn 15 .add (.t 8) (ki 1),mo 8 15]) (kp [(3,0),(6,0),(7,0),(8,0)] [] 0)))))))
def g56l1_c:TC:=.loop [3,6,7,8] g56l1_cb
def g56_tf:TFn:=⟨(sq [mk 2 (ki 0)] [0] (sq [mk 3 (ki 1)] [0,3] (.seq (sq [mo 6 0,le 7 6,mk 8 (ki 0)] [3,6,7,8] (.block 0 (.keep (kp [(3,0),(6,0),(7,0),(8,0)] [] 0) g56l1_c))) (.trim [3] (.seq (.ops [mo 16 3,mo 2 16]) (.keep (kp [(2,0)] [] 0) .ret)))))),[.t 2]⟩
abbrev g56_S:=Sys.on [] []
@[reducible,simp] def g56l1_F:Int→Out:=(fun t=>(.ext 0,[(3,(.int .i64 t))],[]))
def impl_product_l1_b (v2:List Int) (v3:Int) (v1:Int) (v4:Int):Option ((Int×Int) ⊕ (Int)):=if v4 < v3 then if 0≤v4 then (v2[(v4).toNat]?).bind fun x5=>some (.inl ((IntKind.i64.wrap (v1 * x5)),(IntKind.i64.wrap (v4+1)))) else none else some (.inr v1)
theorem g56l1_b_eq  (v2:List Int) (v3:Int) (v1:Int) (v4:Int):X g56_S g56l1_cb (keepEnv [3,6,7,8] [(3,(.int .i64 v1)),(6,(.vs (rows v2))),(7,(.int .i64 v3)),(8,(.int .i64 v4))]) []=(impl_product_l1_b v2 v3 v1 v4).map (Sum.elim (fun s=>(TX.nrm,[(3,(.int .i64 s.1)),(6,(.vs (rows v2))),(7,(.int .i64 v3)),(8,(.int .i64 s.2))],[])) g56l1_F):=by
  simp (maxSteps:=2000000) (maxDischargeDepth:=8) -implicitDefEqProofs [g56l1_cb,impl_product_l1_b] <;> (try simp only [map_to_bind,some_elim,g56l1_F])
def impl_product_l1 (v2:List Int) (v3:Int) (s:Int×Int):Option (Int):=loopO (fun s=>impl_product_l1_b v2 v3 s.1 s.2) s
@[simp] theorem g56l1_eq (y0 y1 y2 y3):X g56_S g56l1_c [(3,(.int .i64 y0)),(6,(.vs (rows y1))),(7,(.int .i64 y2)),(8,(.int .i64 y3))] []=(impl_product_l1 y1 y2 (y0,y3)).map g56l1_F:=by
  exact loop_X _ _ _ _ (by intro r;first | (simp;done) | (rcases r with r | r <;> simp;done) | (rcases r with r | r | r <;> simp;done) | (rcases r with r | r | r | r <;> simp)) (fun s=>g56l1_b_eq  y1 y2 s.1 s.2) (y0,y3)
def impl_product (a_list:List Int):Option (Int):=(impl_product_l1 a_list ((a_list.length:Int)) ((1,0))).bind fun r6=>some r6
@[simp] def g56_O:Int→TV×List Blk:=fun r=>((.int .i64 r),[])
def g56_E (a:List Int):List TV:=[(.vs (rows a))]
theorem g56_run (a_list:List Int) :callFn (X g56_S) g56_tf (g56_E a_list) []=(impl_product a_list).map g56_O:=by
  rw [callFn_eq]
  simp (maxSteps:=2000000) (maxDischargeDepth:=8) -implicitDefEqProofs [g56_tf,impl_product,g56_E] <;> (try simp only [map_to_bind,some_elim,g56_O])
def g56_r:Rule:=RlO g56_E (fun a=>impl_product a) g56_O
theorem g56_ok:RuleOk Tryz.prog 90 g56_r:=ok_rlo (S:=g56_S) (tf:=g56_tf) (SysOk.on trivial trivial) (trE_ok (ks:=[[3,6,7,8]]) Tryz.func90 (by kernel_rfl)) fun a=>g56_run a
@[simp] theorem g56_app (y0):g56_r [(.vs (rows y0))]=(impl_product y0).map g56_O :=
  RlO_app (enc:=g56_E) (by intro a b h;simp [g56_E,Prod.ext_iff] at h ⊢;simp [h]) y0
/-! impl.ValidDims -/
def g45_tf:TFn:=⟨(sq [mk 2 (kb false)] [0] (.seq (.after (.ops [mo 3 0,le 4 3,bn 5 .leq (.t 4) (ki 3),mo 6 5,⟨(some 7),(some (6,true)),(.mv (.t 0))⟩,⟨(some 8),(some (6,true)),(.call 89 [.t 7,ki 0,ki 40])⟩,pk 9 (.t 6) (.t 8) (kb false),mo 10 9,⟨(some 11),(some (10,true)),(.mv (.t 0))⟩,⟨(some 12),(some (10,true)),(.call 90 [.t 11])⟩,⟨(some 13),(some (10,true)),(.bin .num .leq (.t 12) (ki 600))⟩,pk 14 (.t 10) (.t 13) (kb false),mo 2 14]) (kp [(2,0)] [] 0)) (.keep (kp [(2,0)] [] 0) .ret))),[.t 2]⟩
abbrev g45_S:=Sys.on [(89,g44_r),(90,g56_r)] []
def impl_ValidDims (a_dims:List Int):Option (Bool):=if (a_dims.length:Int)≤3 then (impl_allWithin a_dims 0 40).bind fun r1=>if r1=true then (impl_product a_dims).bind fun r2=>some ((decide (r2≤600))) else some false else some false
@[simp] def g45_O:Bool→TV×List Blk:=fun r=>((.bool r),[])
def g45_E (a:List Int):List TV:=[(.vs (rows a))]
theorem g45_run (a_dims:List Int) :callFn (X g45_S) g45_tf (g45_E a_dims) []=(impl_ValidDims a_dims).map g45_O:=by
  rw [callFn_eq]
  simp (maxSteps:=2000000) (maxDischargeDepth:=8) -implicitDefEqProofs [g45_tf,impl_ValidDims,g45_E] <;> (try simp only [map_to_bind,some_elim,g45_O])
def g45_r:Rule:=RlO g45_E (fun a=>impl_ValidDims a) g45_O
theorem g45_ok:RuleOk Tryz.prog 50 g45_r:=ok_rlo (S:=g45_S) (tf:=g45_tf) (SysOk.on ⟨g44_ok,g56_ok,trivial⟩ trivial) (trE_ok (ks:=[]) Tryz.func50 (by kernel_rfl)) fun a=>g45_run a
@[simp] theorem g45_app (y0):g45_r [(.vs (rows y0))]=(impl_ValidDims y0).map g45_O :=
  RlO_app (enc:=g45_E) (by intro a b h;simp [g45_E,Prod.ext_iff] at h ⊢;simp [h]) y0
/-! impl.ValidSpace -/
def g41l1_cb:TC:=(sq [bn 22 .lss (.t 21) (.t 20)] [1,19,20,21,22] (.seq (.cond (.t 22) .skip (.keep (kp [] [] 0) (.exit 0))) (.trim [1,19,20,21] (.seq (.block 1 (sq [mo 23 21,ia 24 1 19 21,ld 25 24,mo 3 23,mo 4 25] [1,3,4,19,20,21] (sq [mo 26 4,bn 27 .neq (.t 26) (ki (-1)),mo 28 27,⟨(some 29),(some (28,true)),(.mv (.t 4))⟩,⟨(some 30),(some (28,true)),(.faddr 0 (.t 1))⟩,⟨(some 31),(some (28,true)),(.load none (.t 30))⟩,⟨(some 32),(some (28,true)),(.mv (.t 3))⟩,⟨(some 33),(some (28,true)),(.iaddr 1 (.t 31) (.t 32))⟩,⟨(some 34),(some (28,true)),(.load none (.t 33))⟩,⟨(some 35),(some (28,true)),(.call 79 [.t 29,.t 34,ki 40])⟩,⟨(some 36),(some (28,true)),(.un .not (.t 35))⟩,pk 37 (.t 28) (.t 36) (kb false)] [1,19,20,21,37] (.cond (.t 37) (.seq (.ops [mk 2 (kb false)]) (.keep (kp [(2,0)] [] 0) .ret)) (.keep (kp [(1,0),(19,0),(20,0),(21,0)] [(0,0)] 0) .skip))))) (.trim [1,19,20,21] (.after (.ops [bn 38 .add (.t 21) (ki 1),mo 21 38]) (kp [(1,0),(19,0),(20,0),(21,0)] [(0,0)] 0)))))))
def g41l1_c:TC:=.loop [1,19,20,21] g41l1_cb
def g41_tf:TFn:=⟨(sq [bx 1 0,mk 2 (kb false)] [1] (.seq (sq [fa 5 0 1,ld 6 5,ca 7 50 [.t 6],nt 8 7,mo 9 8,⟨(some 10),(some (9,false)),(.faddr 1 (.t 1))⟩,⟨(some 11),(some (9,false)),(.load none (.t 10))⟩,⟨(some 12),(some (9,false)),(.len false (.t 11))⟩,⟨(some 13),(some (9,false)),(.faddr 0 (.t 1))⟩,⟨(some 14),(some (9,false)),(.load none (.t 13))⟩,⟨(some 15),(some (9,false)),(.len false (.t 14))⟩,⟨(some 16),(some (9,false)),(.bin .num .neq (.t 12) (.t 15))⟩,pk 17 (.t 9) (kb true) (.t 16)] [1,17] (.cond (.t 17) (.seq (.ops [mk 2 (kb false)]) (.keep (kp [(2,0)] [] 0) .ret)) .skip)) (.trim [1] (.seq (sq [fa 18 1 1,ld 19 18,le 20 19,mk 21 (ki 0)] [1,19,20,21] (.block 0 (.keep (kp [(1,0),(19,0),(20,0),(21,0)] [(0,0)] 0) g41l1_c))) (.trim [] (.seq (.ops [mk 2 (kb true)]) (.keep (kp [(2,0)] [] 0) .ret))))))),[.t 2]⟩
abbrev g41_S:=Sys.on [(50,g45_r),(79,g60_r)] []
@[reducible,simp] def g41l1_F:((Unit) ⊕ (Bool))→Out:=(Sum.elim (fun t=>(.ext 0,[],[])) (fun t=>(.ret,[(2,(.bool t))],[])))
def impl_ValidSpace_l1_b (v2:List Int×List Int) (v3:List Int) (v4:Int) (v5:Int):Option ((Int) ⊕ ((Unit) ⊕ (Bool))):=if v5 < v4 then if 0≤v5 then (v3[(v5).toNat]?).bind fun x6=>if ¬(x6=(-1)) then if 0≤v5 then (v2.1[(v5).toNat]?).bind fun x7=>(impl_within x6 x7 40).bind fun r8=>if ¬(r8=true) then some (.inr (.inr false)) else some (.inl ((IntKind.i64.wrap (v5+1)))) else none else some (.inl ((IntKind.i64.wrap (v5+1)))) else none else some (.inr (.inl ()))
theorem g41l1_b_eq  (v2:List Int×List Int) (v3:List Int) (v4:Int) (v5:Int):X g41_S g41l1_cb (keepEnv [1,19,20,21] [(1,(.ptr 0 0 0)),(19,(.vs (rows v3))),(20,(.int .i64 v4)),(21,(.int .i64 v5))]) [(.live 2 [[(.vs (rows v2.1)),(.vs (rows v2.2))]])]=(impl_ValidSpace_l1_b v2 v3 v4 v5).map (Sum.elim (fun s=>(TX.nrm,[(1,(.ptr 0 0 0)),(19,(.vs (rows v3))),(20,(.int .i64 v4)),(21,(.int .i64 s))],[(.live 2 [[(.vs (rows v2.1)),(.vs (rows v2.2))]])])) g41l1_F):=by
  simp (maxSteps:=2000000) (maxDischargeDepth:=8) -implicitDefEqProofs [g41l1_cb,impl_ValidSpace_l1_b] <;> (try simp only [map_to_bind,some_elim,g41l1_F])
def impl_ValidSpace_l1 (v2:List Int×List Int) (v3:List Int) (v4:Int) (s:Int):Option ((Unit) ⊕ (Bool)):=loopO (fun s=>impl_ValidSpace_l1_b v2 v3 v4 s) s
@[simp] theorem g41l1_eq (y0 y1 y2 y3 y4):X g41_S g41l1_c [(1,(.ptr 0 0 0)),(19,(.vs (rows y2))),(20,(.int .i64 y3)),(21,(.int .i64 y4))] [(.live 2 [[(.vs (rows y0)),(.vs (rows y1))]])]=(impl_ValidSpace_l1 ((y0,y1)) y2 y3 y4).map g41l1_F:=by
  exact loop_X _ _ _ _ (by intro r;first | (simp;done) | (rcases r with r | r <;> simp;done) | (rcases r with r | r | r <;> simp;done) | (rcases r with r | r | r | r <;> simp)) (fun s=>g41l1_b_eq  ((y0,y1)) y2 y3 s) y4
def impl_ValidSpace (a_s:List Int×List Int):Option (Bool):=(impl_ValidDims a_s.1).bind fun r1=>if ¬(r1=true) then some false else if ¬((a_s.2.length:Int)=(a_s.1.length:Int)) then some false else (impl_ValidSpace_l1 a_s a_s.2 ((a_s.2.length:Int)) 0).bind fun r9=>Sum.elim (fun u10=>some true) (fun u11=>some u11) r9
@[simp] def g41_O:Bool→TV×List Blk:=fun r=>((.bool r),[])
def g41_E (a:(List Int×List Int)):List TV:=[(.agg [(.vs (rows a.1)),(.vs (rows a.2))])]
theorem g41_run (a_s:List Int×List Int) :callFn (X g41_S) g41_tf (g41_E a_s) []=(impl_ValidSpace a_s).map g41_O:=by
  rw [callFn_eq]
  simp (maxSteps:=2000000) (maxDischargeDepth:=8) -implicitDefEqProofs [g41_tf,impl_ValidSpace,g41_E] <;> (try simp only [map_to_bind,some_elim,g41_O])
def g41_r:Rule:=RlO g41_E (fun a=>impl_ValidSpace a) g41_O
theorem g41_ok:RuleOk Tryz.prog 39 g41_r:=ok_rlo (S:=g41_S) (tf:=g41_tf) (SysOk.on ⟨g45_ok,g60_ok,trivial⟩ trivial) (trE_ok (ks:=[[1,19,20,21]]) Tryz.func39 (by kernel_rfl)) fun a=>g41_run a
@[simp] theorem g41_app (y0 y1):g41_r [(.agg [(.vs (rows y0)),(.vs (rows y1))])]=(impl_ValidSpace ((y0,y1))).map g41_O :=
  RlO_app (enc:=g41_E) (by intro a b h;simp [g41_E,Prod.ext_iff] at h ⊢;simp [h]) ((y0,y1))
/-! impl.DecodeSpace -/
def g34_tf:TFn:=⟨(sq [oo 2 (.alloc [.nils,.nils]),mk 3 (kb false)] [0,2] (sq [mo 6 0,oo 7 (.build [(.str []),(.bool false)] [(0,1,(.t 6))]),bx 8 7,mo 4 8] [2,4] (sq [mo 9 4,oo 10 (.callM 38 0 [1] [.t 9]),oo 5 (.alloc [.nils,.nils]),⟨none,none,(.store 2 (.t 5) (.t 10))⟩] [2,4,5] (.seq (sq [mo 11 4,nk 12 11,fa 13 1 12,ld 14 13,mo 15 14,⟨(some 16),(some (15,false)),(.mv (.t 4))⟩,⟨(some 17),(some (15,false)),(.nilchk (.t 16))⟩,⟨(some 18),(some (15,false)),(.faddr 0 (.t 17))⟩,⟨(some 19),(some (15,false)),(.load none (.t 18))⟩,⟨(some 20),(some (15,false)),(.bin .str .neq (.t 19) (.c (.str [])))⟩,pk 21 (.t 15) (kb true) (.t 20),mo 22 21,⟨(some 23),(some (22,false)),(.load (some 2) (.t 5))⟩,⟨(some 24),(some (22,false)),(.call 39 [.t 23])⟩,⟨(some 25),(some (22,false)),(.un .not (.t 24))⟩,pk 26 (.t 22) (kb true) (.t 25)] [2,5,26] (.cond (.t 26) (.seq (.ops [oo 27 (.build [.nils,.nils] []),⟨none,none,(.store 2 (.t 2) (.t 27))⟩,mk 3 (kb false)]) (.keep (kp [(2,0),(3,0)] [(0,2),(1000,1),(1001,1)] 0) .ret)) .skip)) (.trim [2,5] (.seq (.ops [ln 28 2 5,⟨none,none,(.store 2 (.t 2) (.t 28))⟩,mk 3 (kb true)]) (.keep (kp [(2,0),(3,0)] [(0,2),(3,1),(4,1)] 0) .ret))))))),[.cell 2 (some 2),.t 3]⟩
abbrev g34_S:=Sys.on [(39,g41_r)] [((38,0),(1,g9_r))]
def impl_DecodeSpace (a_s:Str):Option ((List Int×List Int)×Bool):=(impl_decoder_space_od0 ((a_s,false))).bind fun r1=>if r1.1.2=true then some ((([]:List Int),([]:List Int)),false) else if ¬(r1.1.1=([]:Str)) then some ((([]:List Int),([]:List Int)),false) else (impl_ValidSpace r1.2).bind fun r2=>if ¬(r2=true) then some ((([]:List Int),([]:List Int)),false) else some (r1.2,true)
@[simp] def g34_O:((List Int×List Int)×Bool)→TV×List Blk:=fun r=>((.tup [(.agg [(ow 1 r.1.1.length),(ow 2 r.1.2.length)]),(.bool r.2)]),[(.live 2 [[(ow 1 r.1.1.length),(ow 2 r.1.2.length)]]),(ob 1 r.1.1),(ob 1 r.1.2)])
def g34_E (a:Str):List TV:=[(.str a)]
theorem g34_run (a_s:Str) :callFn (X g34_S) g34_tf (g34_E a_s) []=(impl_DecodeSpace a_s).map g34_O:=by
  rw [callFn_eq]
  simp (maxSteps:=2000000) (maxDischargeDepth:=8) -implicitDefEqProofs [g34_tf,impl_DecodeSpace,g34_E] <;> (try simp only [map_to_bind,some_elim,g34_O])
def g34_r:Rule:=RlO g34_E (fun a=>impl_DecodeSpace a) g34_O
theorem g34_ok:RuleOk Tryz.prog 8 g34_r:=ok_rlo (S:=g34_S) (tf:=g34_tf) (SysOk.on ⟨g41_ok,trivial⟩ ⟨g9_ok,trivial⟩) (trE_ok (ks:=[]) Tryz.func8 (by kernel_rfl)) fun a=>g34_run a
@[simp] theorem g34_app (y0):g34_r [(.str y0)]=(impl_DecodeSpace y0).map g34_O :=
  RlO_app (enc:=g34_E) (by intro a b h;simp [g34_E,Prod.ext_iff] at h ⊢;simp [h]) y0
/-! impl.putBytes -/
def g52l1_cb:TC:=(sq [bn 12 .lss (.t 11) (.t 10)] [0,5,10,11,12] (.seq (.cond (.t 12) .skip (.keep (kp [(5,1)] [(0,1)] 0) (.exit 0))) (.trim [0,5,10,11] (.seq (.block 1 (sq [mo 13 11,mo 6 13] [0,5,6,10,11] (.ops [mo 14 5,mo 15 6,mo 16 0,mo 17 6,bn 18 .mul (ki 8) (.t 17),bn 19 .shr (.t 16) (.t 18),oo 20 (.conv (.toInt .u8) (.t 19)),ia 21 1 14 15,⟨none,none,(.store 1 (.t 21) (.t 20))⟩]))) (.trim [0,5,10,11] (.after (.ops [bn 22 .add (.t 11) (ki 1),mo 11 22]) (kp [(0,0),(5,1),(10,0),(11,0)] [(0,1)] 0)))))))
def g52l1_c:TC:=.loop [0,5,10,11] g52l1_cb
def g52_tf:TFn:=⟨(sq [mk 4 (.c (.str []))] [0,1] (sq [mo 7 1,oo 8 (.mkslice 1 [(.int .u8 0)] (.t 7) (.t 7)),mo 5 8] [0,5] (.seq (sq [mo 9 5,le 10 9,mk 11 (ki 0)] [0,5,10,11] (.block 0 (.keep (kp [(0,0),(5,1),(10,0),(11,0)] [(0,1)] 0) g52l1_c))) (.trim [5] (.seq (.ops [mo 23 5,oo 24 (.conv .toStr (.t 23)),mo 4 24]) (.keep (kp [(4,0)] [] 0) .ret)))))),[.t 4]⟩
abbrev g52_S:=Sys.on [] []
@[reducible,simp] def g52l1_F:(List Bt)→Out:=(fun t=>(.ext 0,[(5,(ow 0 t.length))],[(ob 1 t)]))
def impl_putBytes_l1_b (v2:Int) (v4:Int) (v3:List Bt) (v5:Int):Option ((List Bt×Int) ⊕ (List Bt)):=if v5 < v4 then if (IntKind.i64.wrap (8 * v5)) < 0 then none else if 0≤v5∧v5 < ((v3.length:Nat):Int) then (v3[(v5).toNat]?).bind fun x6=>some (.inl ((v3.set (v5).toNat (⟨UInt8.ofNat ((IntKind.u8.wrap ((shrV .i64 v2 ((IntKind.i64.wrap (8 * v5))))))).toNat⟩:Bt)),(IntKind.i64.wrap (v5+1)))) else none else some (.inr v3)
theorem g52l1_b_eq  (v2:Int) (v4:Int) (v3:List Bt) (v5:Int):X g52_S g52l1_cb (keepEnv [0,5,10,11] [(0,(.int .i64 v2)),(5,(ow 0 v3.length)),(10,(.int .i64 v4)),(11,(.int .i64 v5))]) [(ob 1 v3)]=(impl_putBytes_l1_b v2 v4 v3 v5).map (Sum.elim (fun s=>(TX.nrm,[(0,(.int .i64 v2)),(5,(ow 0 s.1.length)),(10,(.int .i64 v4)),(11,(.int .i64 s.2))],[(ob 1 s.1)])) g52l1_F):=by
  simp (maxSteps:=2000000) (maxDischargeDepth:=8) -implicitDefEqProofs [g52l1_cb,impl_putBytes_l1_b,mksliceV_typed (z:=((⟨0⟩:Bt):Bt)) (zs:=[(.int .u8 0)]) rfl (by decide) (by decide)] <;> (try simp only [map_to_bind,some_elim,g52l1_F])
def impl_putBytes_l1 (v2:Int) (v4:Int) (s:List Bt×Int):Option (List Bt):=loopO (fun s=>impl_putBytes_l1_b v2 v4 s.1 s.2) s
@[simp] theorem g52l1_eq (y0)(y1:List Bt)(y2 y3){n1:Nat}(h1:n1=y1.length):X g52_S g52l1_c [(0,(.int .i64 y0)),(5,(ow 0 n1)),(10,(.int .i64 y2)),(11,(.int .i64 y3))] [(ob 1 y1)]=(impl_putBytes_l1 y0 y2 (y1,y3)).map g52l1_F:=by
  subst h1
  exact loop_X _ _ _ _ (by intro r;first | (simp;done) | (rcases r with r | r <;> simp;done) | (rcases r with r | r | r <;> simp;done) | (rcases r with r | r | r | r <;> simp)) (fun s=>g52l1_b_eq  y0 y2 s.1 s.2) (y1,y3)
def impl_putBytes (a_n:Int) (a_size:Int):Option (Str):=(mkL 1 a_size a_size ((⟨0⟩:Bt):Bt)).bind fun l1=>(impl_putBytes_l1 a_n (((l1.length:Nat):Int)) ((l1,0))).bind fun r7=>some ((r7.map Bt.v))
@[simp] def g52_O:Str→TV×List Blk:=fun r=>((.str r),[])
def g52_E (a:Int×Int):List TV:=[(.int .i64 a.1),(.int .i64 a.2)]
theorem g52_run (a_n:Int) (a_size:Int) :callFn (X g52_S) g52_tf (g52_E (a_n,a_size)) []=(impl_putBytes a_n a_size).map g52_O:=by
  rw [callFn_eq]
  simp (maxSteps:=2000000) (maxDischargeDepth:=8) -implicitDefEqProofs [g52_tf,impl_putBytes,g52_E,mksliceV_typed (z:=((⟨0⟩:Bt):Bt)) (zs:=[(.int .u8 0)]) rfl (by decide) (by decide)] <;> (try simp only [map_to_bind,some_elim,g52_O])
def g52_r:Rule:=RlO g52_E (fun a=>impl_putBytes a.1 a.2) g52_O
theorem g52_ok:RuleOk Tryz.prog 80 g52_r:=ok_rlo (S:=g52_S) (tf:=g52_tf) (SysOk.on trivial trivial) (trE_ok (ks:=[[0,5,10,11]]) Tryz.func80 (by kernel_rfl)) fun a=>g52_run a.1 a.2
@[simp] theorem g52_app (y0 y1):g52_r [(.int .i64 y0),(.int .i64 y1)]=(impl_putBytes y0 y1).map g52_O :=
  RlO_app (enc:=g52_E) (by intro a b h;simp [g52_E,Prod.ext_iff] at h ⊢;simp [h]) (y0,y1)
/-! (impl.Space).encode -/
def g28l1_cb:TC:=(sq [bn 14 .lss (.t 13) (.t 12)] [1,3,11,12,13,14] (.seq (.cond (.t 14) .skip (.keep (kp [(3,0)] [] 0) (.exit 0))) (.trim [1,3,11,12,13] (.seq (.block 1 (sq [mo 15 13,ia 16 1 11 13,ld 17 16,mo 4 15,mo 5 17] [1,3,4,5,11,12,13] (sq [mo 18 3,mo 19 5,ca 20 80 [.t 19,ki 1],oo 21 (.bin .str .add (.t 18) (.t 20)),mo 3 21] [1,3,4,11,12,13] (sq [fa 22 1 1,ld 23 22,mo 24 4,ia 25 1 23 24,ld 26 25,bn 27 .eql (.t 26) (ki (-1))] [1,3,4,11,12,13,27] (.cond (.t 27) (.after (.ops [mo 28 3,ca 29 80 [ki 255,ki 1],oo 30 (.bin .str .add (.t 28) (.t 29)),mo 3 30]) (kp [(1,0),(3,0),(11,0),(12,0),(13,0)] [(0,0)] 0)) (.after (.ops [mo 31 3,fa 32 1 1,ld 33 32,mo 34 4,ia 35 1 33 34,ld 36 35,ca 37 80 [.t 36,ki 1],oo 38 (.bin .str .add (.t 31) (.t 37)),mo 3 38]) (kp [(1,0),(3,0),(11,0),(12,0),(13,0)] [(0,0)] 0))))))) (.trim [1,3,11,12,13] (.after (.ops [bn 39 .add (.t 13) (ki 1),mo 13 39]) (kp [(1,0),(3,0),(11,0),(12,0),(13,0)] [(0,0)] 0)))))))
def g28l1_c:TC:=.loop [1,3,11,12,13] g28l1_cb
def g28_tf:TFn:=⟨(sq [bx 1 0,mk 2 (.c (.str []))] [1] (sq [fa 6 0 1,ld 7 6,le 8 7,ca 9 80 [.t 8,ki 1],mo 3 9] [1,3] (.seq (sq [fa 10 0 1,ld 11 10,le 12 11,mk 13 (ki 0)] [1,3,11,12,13] (.block 0 (.keep (kp [(1,0),(3,0),(11,0),(12,0),(13,0)] [(0,0)] 0) g28l1_c))) (.trim [3] (.seq (.ops [mo 40 3,mo 2 40]) (.keep (kp [(2,0)] [] 0) .ret)))))),[.t 2]⟩
abbrev g28_S:=Sys.on [(80,g52_r)] []
@[reducible,simp] def g28l1_F:Str→Out:=(fun t=>(.ext 0,[(3,(.str t))],[]))
def impl_Space_encode_l1_b (v2:List Int×List Int) (v4:List Int) (v5:Int) (v3:Str) (v6:Int):Option ((Str×Int) ⊕ (Str)):=if v6 < v5 then if 0≤v6 then (v4[(v6).toNat]?).bind fun x7=>(impl_putBytes x7 1).bind fun r8=>if v3.length+r8.length≤9223372036854775807 then if 0≤v6 then (v2.2[(v6).toNat]?).bind fun x9=>if x9=(-1) then (impl_putBytes 255 1).bind fun r10=>if ((v3++r8)).length+r10.length≤9223372036854775807 then some (.inl (((v3++r8)++r10),(IntKind.i64.wrap (v6+1)))) else none else if 0≤v6 then (v2.2[(v6).toNat]?).bind fun x11=>(impl_putBytes x11 1).bind fun r12=>if ((v3++r8)).length+r12.length≤9223372036854775807 then some (.inl (((v3++r8)++r12),(IntKind.i64.wrap (v6+1)))) else none else none else none else none else none else some (.inr v3)
theorem g28l1_b_eq  (v2:List Int×List Int) (v4:List Int) (v5:Int) (v3:Str) (v6:Int):X g28_S g28l1_cb (keepEnv [1,3,11,12,13] [(1,(.ptr 0 0 0)),(3,(.str v3)),(11,(.vs (rows v4))),(12,(.int .i64 v5)),(13,(.int .i64 v6))]) [(.live 2 [[(.vs (rows v2.1)),(.vs (rows v2.2))]])]=(impl_Space_encode_l1_b v2 v4 v5 v3 v6).map (Sum.elim (fun s=>(TX.nrm,[(1,(.ptr 0 0 0)),(3,(.str s.1)),(11,(.vs (rows v4))),(12,(.int .i64 v5)),(13,(.int .i64 s.2))],[(.live 2 [[(.vs (rows v2.1)),(.vs (rows v2.2))]])])) g28l1_F):=by
  simp (maxSteps:=2000000) (maxDischargeDepth:=8) -implicitDefEqProofs [g28l1_cb,impl_Space_encode_l1_b] <;> (try simp only [map_to_bind,some_elim,g28l1_F])
def impl_Space_encode_l1 (v2:List Int×List Int) (v4:List Int) (v5:Int) (s:Str×Int):Option (Str):=loopO (fun s=>impl_Space_encode_l1_b v2 v4 v5 s.1 s.2) s
@[simp] theorem g28l1_eq (y0 y1 y2 y3 y4 y5):X g28_S g28l1_c [(1,(.ptr 0 0 0)),(3,(.str y2)),(11,(.vs (rows y3))),(12,(.int .i64 y4)),(13,(.int .i64 y5))] [(.live 2 [[(.vs (rows y0)),(.vs (rows y1))]])]=(impl_Space_encode_l1 ((y0,y1)) y3 y4 (y2,y5)).map g28l1_F:=by
  exact loop_X _ _ _ _ (by intro r;first | (simp;done) | (rcases r with r | r <;> simp;done) | (rcases r with r | r | r <;> simp;done) | (rcases r with r | r | r | r <;> simp)) (fun s=>g28l1_b_eq  ((y0,y1)) y3 y4 s.1 s.2) (y2,y5)
def impl_Space_encode (a_s:List Int×List Int):Option (Str):=(impl_putBytes ((a_s.1.length:Int)) 1).bind fun r1=>(impl_Space_encode_l1 a_s a_s.1 ((a_s.1.length:Int)) ((r1,0))).bind fun r13=>some r13
@[simp] def g28_O:Str→TV×List Blk:=fun r=>((.str r),[])
def g28_E (a:(List Int×List Int)):List TV:=[(.agg [(.vs (rows a.1)),(.vs (rows a.2))])]
theorem g28_run (a_s:List Int×List Int) :callFn (X g28_S) g28_tf (g28_E a_s) []=(impl_Space_encode a_s).map g28_O:=by
  rw [callFn_eq]
  simp (maxSteps:=2000000) (maxDischargeDepth:=8) -implicitDefEqProofs [g28_tf,impl_Space_encode,g28_E] <;> (try simp only [map_to_bind,some_elim,g28_O])
def g28_r:Rule:=RlO g28_E (fun a=>impl_Space_encode a) g28_O
theorem g28_ok:RuleOk Tryz.prog 40 g28_r:=ok_rlo (S:=g28_S) (tf:=g28_tf) (SysOk.on ⟨g52_ok,trivial⟩ trivial) (trE_ok (ks:=[[1,3,11,12,13]]) Tryz.func40 (by kernel_rfl)) fun a=>g28_run a
@[simp] theorem g28_app (y0 y1):g28_r [(.agg [(.vs (rows y0)),(.vs (rows y1))])]=(impl_Space_encode ((y0,y1))).map g28_O :=
  RlO_app (enc:=g28_E) (by intro a b h;simp [g28_E,Prod.ext_iff] at h ⊢;simp [h]) ((y0,y1))
/-! impl.EncodeSpace -/
def g35_tf:TFn:=⟨(sq [bx 1 0,mk 2 (.c (.str []))] [1] (.seq (sq [ln 3 2 1,ca 4 39 [.t 3],nt 5 4] [1,5] (.cond (.t 5) (.seq (.ops [mk 2 (.c (.str []))]) (.keep (kp [(2,0)] [] 0) .ret)) .skip)) (.trim [1] (.seq (.ops [ln 6 2 1,ca 7 40 [.t 6],mo 2 7]) (.keep (kp [(2,0)] [] 0) .ret))))),[.t 2]⟩
abbrev g35_S:=Sys.on [(39,g41_r),(40,g28_r)] []
def impl_EncodeSpace (a_s:List Int×List Int):Option (Str):=(impl_ValidSpace a_s).bind fun r1=>if ¬(r1=true) then some (([]:Str)) else (impl_Space_encode a_s).bind fun r2=>some r2
@[simp] def g35_O:Str→TV×List Blk:=fun r=>((.str r),[])
def g35_E (a:(List Int×List Int)):List TV:=[(.agg [(.vs (rows a.1)),(.vs (rows a.2))])]
theorem g35_run (a_s:List Int×List Int) :callFn (X g35_S) g35_tf (g35_E a_s) []=(impl_EncodeSpace a_s).map g35_O:=by
  rw [callFn_eq]
  simp (maxSteps:=2000000) (maxDischargeDepth:=8) -implicitDefEqProofs [g35_tf,impl_EncodeSpace,g35_E] <;> (try simp only [map_to_bind,some_elim,g35_O])
def g35_r:Rule:=RlO g35_E (fun a=>impl_EncodeSpace a) g35_O
theorem g35_ok:RuleOk Tryz.prog 9 g35_r:=ok_rlo (S:=g35_S) (tf:=g35_tf) (SysOk.on ⟨g41_ok,g28_ok,trivial⟩ trivial) (trE_ok (ks:=[]) Tryz.func9 (by kernel_rfl)) fun a=>g35_run a
@[simp] theorem g35_app (y0 y1):g35_r [(.agg [(.vs (rows y0)),(.vs (rows y1))])]=(impl_EncodeSpace ((y0,y1))).map g35_O :=
  RlO_app (enc:=g35_E) (by intro a b h;simp [g35_E,Prod.ext_iff] at h ⊢;simp [h]) ((y0,y1))
/-! spec.ValidSpace -/
def g42_tf:TFn:=⟨(sq [bx 1 0,mk 2 (kb false)] [1] (.seq (.ops [ln 3 2 1,ca 4 41 [.t 3],mo 2 4]) (.keep (kp [(2,0)] [] 0) .ret))),[.t 2]⟩
abbrev g42_S:=Sys.on [(41,g50_r)] []
def spec_ValidSpace (a_s:List Int×List Int):Option (Bool):=(spec_l05Space a_s).bind fun r1=>some r1
@[simp] def g42_O:Bool→TV×List Blk:=fun r=>((.bool r),[])
def g42_E (a:(List Int×List Int)):List TV:=[(.agg [(.vs (rows a.1)),(.vs (rows a.2))])]
theorem g42_run (a_s:List Int×List Int) :callFn (X g42_S) g42_tf (g42_E a_s) []=(spec_ValidSpace a_s).map g42_O:=by
  rw [callFn_eq]
  simp (maxSteps:=2000000) (maxDischargeDepth:=8) -implicitDefEqProofs [g42_tf,spec_ValidSpace,g42_E] <;> (try simp only [map_to_bind,some_elim,g42_O])
def g42_r:Rule:=RlO g42_E (fun a=>spec_ValidSpace a) g42_O
theorem g42_ok:RuleOk Tryz.prog 10 g42_r:=ok_rlo (S:=g42_S) (tf:=g42_tf) (SysOk.on ⟨g50_ok,trivial⟩ trivial) (trE_ok (ks:=[]) Tryz.func10 (by kernel_rfl)) fun a=>g42_run a
@[simp] theorem g42_app (y0 y1):g42_r [(.agg [(.vs (rows y0)),(.vs (rows y1))])]=(spec_ValidSpace ((y0,y1))).map g42_O :=
  RlO_app (enc:=g42_E) (by intro a b h;simp [g42_E,Prod.ext_iff] at h ⊢;simp [h]) ((y0,y1))
/-! spec.l05Digits -/
def g46_tf:TFn:=⟨(sq [mk 2 (.c (.str []))] [0] (.seq (sq [mo 3 0,bn 4 .lss (.t 3) (ki 0)] [0,4] (.cond (.t 4) (.seq (.ops [mo 5 0,oo 6 (.un .neg (.t 5)),ca 7 82 [.t 6],oo 8 (.bin .str .add (.c (.str [45])) (.t 7)),mo 2 8]) (.keep (kp [(2,0)] [] 0) .ret)) .skip)) (.trim [0] (.seq (sq [mo 9 0,bn 10 .lss (.t 9) (ki 10)] [0,10] (.cond (.t 10) (.seq (.ops [mo 11 0,bn 12 .add (ki 48) (.t 11),oo 13 (.conv (.toInt .u8) (.t 12)),oo 14 (.bslice [(.int .u8 0)] 1 [(0,(.t 13))]),oo 15 (.conv .toStr (.t 14)),mo 2 15]) (.keep (kp [(2,0)] [] 0) .ret)) .skip)) (.trim [0] (.seq (.draw [([],mo 16 0),([0],bn 17 .quo (.t 16) (ki 10)),([0,1],ca 18 82 [.t 17]),([],mo 19 0),([3],bn 20 .rem (.t 19) (ki 10)),([3,4],bn 21 .add (ki 48) (.t 20)),([3,4,5],oo 22 (.conv (.toInt .u8) (.t 21))),([3,4,5,6],oo 23 (.bslice [(.int .u8 0)] 1 [(0,(.t 22))])),([3,4,5,6,7],oo 24 (.conv .toStr (.t 23)))] [oo 25 (.bin .str .add (.t 18) (.t 24)),mo 2 25]) (.keep (kp [(2,0)] [] 0) .ret))))))),[.t 2]⟩
@[simp] def g46_O:Str→TV×List Blk:=fun r=>((.str r),[])
def g46_E (a:Int):List TV:=[(.int .i64 a)]
abbrev spec_l05Digits_R:=(Int→Option (Str))
def spec_l05Digits_q (r:spec_l05Digits_R):Rule:=RlO g46_E (fun a=>r a) g46_O
@[simp] theorem spec_l05Digits_qapp {r:spec_l05Digits_R} (a_n:Int) :(spec_l05Digits_q r) [(.int .i64 a_n)]=(r a_n).map g46_O :=
  RlO_app (enc:=g46_E) (by intro a b h;simp [g46_E,Prod.ext_iff] at h ⊢;simp [h]) a_n
abbrev g46_S (r:spec_l05Digits_R):=Sys.on [(82,spec_l05Digits_q r)] []
def spec_l05Digits_W (r:spec_l05Digits_R) (a_n:Int):Option (Str):=if a_n < 0 then (r ((IntKind.i64.wrap (0 - a_n)))).bind fun r1=>if (([45]:Str)).length+r1.length≤9223372036854775807 then some ((([45]:Str)++r1)) else none else if a_n < 10 then some ((((lit [(⟨UInt8.ofNat ((IntKind.u8.wrap ((IntKind.i64.wrap (48+a_n))))).toNat⟩:Bt)]:List Bt)).map Bt.v)) else (r ((IntKind.i64.wrap (Int.tdiv a_n 10)))).bind fun r2=>if r2.length+((((lit [(⟨UInt8.ofNat ((IntKind.u8.wrap ((IntKind.i64.wrap (48+(Int.tmod a_n 10)))))).toNat⟩:Bt)]:List Bt)).map Bt.v)).length≤9223372036854775807 then some ((r2++(((lit [(⟨UInt8.ofNat ((IntKind.u8.wrap ((IntKind.i64.wrap (48+(Int.tmod a_n 10)))))).toNat⟩:Bt)]:List Bt)).map Bt.v))) else none
theorem g46_run {r:spec_l05Digits_R} (a_n:Int) :callFn (X (g46_S r)) g46_tf (g46_E a_n) []=(spec_l05Digits_W r a_n).map g46_O:=by
  rw [callFn_eq]
  simp (maxSteps:=2000000) (maxDischargeDepth:=8) -implicitDefEqProofs [g46_tf,spec_l05Digits_W,g46_E,bslV_lit (α:=Bt) (zs:=[(.int .u8 0)])] <;> (try simp only [map_to_bind,some_elim,g46_O])
noncomputable def spec_l05Digits_it (n:Nat):spec_l05Digits_R:=Nat.rec (motive:=fun _=>spec_l05Digits_R) (fun _=>none) (fun _ r=>(spec_l05Digits_W r)) n
noncomputable def spec_l05Digits (a_n:Int):Option (Str):=evO fun n=>((spec_l05Digits_it n)) a_n
theorem spec_l05Digits_oks:∀ n,(RuleOk Tryz.prog 82 (spec_l05Digits_q (spec_l05Digits_it n)))
  | 0=>ok_none (tf:=g46_tf) (trE_ok (ks:=[[9]]) Tryz.func82 (by kernel_rfl))
  | n+1=>by
    have ih:=spec_l05Digits_oks n
    exact ok_rlo (S:=(g46_S (spec_l05Digits_it n))) (tf:=g46_tf) (SysOk.on ⟨(ih),trivial⟩ trivial) (trE_ok (ks:=[[9]]) Tryz.func82 (by kernel_rfl)) fun a=>g46_run a
def g46_r:Rule:=RlO g46_E (fun a=>spec_l05Digits a) g46_O
@[simp] theorem g46_app (y0):g46_r [(.int .i64 y0)]=(spec_l05Digits y0).map g46_O :=
  RlO_app (enc:=g46_E) (by intro a b h;simp [g46_E,Prod.ext_iff] at h ⊢;simp [h]) y0
theorem g46_ok:RuleOk Tryz.prog 82 g46_r:=ok_ev fun n=>(spec_l05Digits_oks n)
/-! spec.SpaceText -/
def g47p2_c:TC:=(sq [mo 19 3,fa 20 0 1,ld 21 20,mo 22 4,ia 23 1 21 22,ld 24 23,ca 25 82 [.t 24],oo 26 (.bin .str .add (.t 19) (.t 25)),mo 3 26] [1,3,4] (sq [fa 27 1 1,ld 28 27,mo 29 4,ia 30 1 28 29,ld 31 30] [1,3,4,31] (.block 2 (sq [fa 42 0 1,ld 43 42,mo 44 4,ia 45 1 43 44,ld 46 45,bn 47 .eql (.t 31) (.t 46),mo 41 47] [1,3,4,31,41] (.cond (.t 41) (.keep (kp [(1,0),(3,0),(4,0)] [(0,0)] 0) .skip) (sq [bn 49 .eql (.t 31) (ki (-1)),mo 48 49] [1,3,4,48] (.cond (.t 48) (.after (.ops [mo 50 3,oo 51 (.bin .str .add (.t 50) (.c (.str [47,42]))),mo 3 51]) (kp [(1,0),(3,0),(4,0)] [(0,0)] 0)) (.after (.ops [mo 32 3,fa 33 1 1,ld 34 33,mo 35 4,ia 36 1 34 35,ld 37 36,ca 38 82 [.t 37],oo 39 (.bin .str .add (.c (.str [47])) (.t 38)),oo 40 (.bin .str .add (.t 32) (.t 39)),mo 3 40]) (kp [(1,0),(3,0),(4,0)] [(0,0)] 0)))))))))
def g47l1_cb:TC:=(.seq (sq [mo 8 4,fa 9 0 1,ld 10 9,le 11 10,bn 12 .lss (.t 8) (.t 11)] [1,3,4,12] (.cond (.t 12) .skip (.keep (kp [(3,0)] [] 0) (.exit 0)))) (.trim [1,3,4] (.seq (.block 1 (.seq (sq [mo 15 4,bn 16 .gtr (.t 15) (ki 0)] [1,3,4,16] (.cond (.t 16) (.after (.ops [mo 17 3,oo 18 (.bin .str .add (.t 17) (.c (.str [44]))),mo 3 18]) (kp [(1,0),(3,0),(4,0)] [(0,0)] 0)) (.keep (kp [(1,0),(3,0),(4,0)] [(0,0)] 0) .skip))) (.trim [1,3,4] g47p2_c))) (.trim [1,3,4] (.after (.ops [mo 13 4,bn 14 .add (.t 13) (ki 1),mo 4 14]) (kp [(1,0),(3,0),(4,0)] [(0,0)] 0))))))
def g47l1_c:TC:=.loop [1,3,4] g47l1_cb
def g47_tf:TFn:=⟨(sq [bx 1 0,mk 2 (.c (.str []))] [1] (.seq (sq [ln 5 2 1,ca 6 41 [.t 5],nt 7 6] [1,7] (.cond (.t 7) (.seq (.ops [mk 2 (.c (.str []))]) (.keep (kp [(2,0)] [] 0) .ret)) .skip)) (.trim [1] (sq [mk 3 (.c (.str []))] [1,3] (.seq (sq [mk 4 (ki 0)] [1,3,4] (.block 0 (.keep (kp [(1,0),(3,0),(4,0)] [(0,0)] 0) g47l1_c))) (.trim [3] (.seq (.ops [mo 52 3,oo 53 (.bin .str .add (.c (.str [40])) (.t 52)),oo 54 (.bin .str .add (.t 53) (.c (.str [41]))),mo 2 54]) (.keep (kp [(2,0)] [] 0) .ret)))))))),[.t 2]⟩
abbrev g47_S:=Sys.on [(41,g50_r),(82,g46_r)] []
@[reducible,simp] def g47p2_F:((List Int×List Int)×Str×Int)→Out:=(fun t=>(.nrm,[(1,(.ptr 0 0 0)),(3,(.str t.2.1)),(4,(.int .i64 t.2.2))],[(.live 2 [[(.vs (rows t.1.1)),(.vs (rows t.1.2))]])]))
def spec_SpaceText_p2 (v5:List Int×List Int) (v6:Str) (v7:Int):Option ((List Int×List Int)×Str×Int):=if 0≤v7 then (v5.1[(v7).toNat]?).bind fun x8=>(spec_l05Digits x8).bind fun r9=>if v6.length+r9.length≤9223372036854775807 then if 0≤v7 then (v5.2[(v7).toNat]?).bind fun x10=>if 0≤v7 then (v5.1[(v7).toNat]?).bind fun x11=>if x10=x11 then some ((v5,(v6++r9),v7)) else if x10=(-1) then if ((v6++r9)).length+(([47,42]:Str)).length≤9223372036854775807 then some ((v5,((v6++r9)++([47,42]:Str)),v7)) else none else if 0≤v7 then (v5.2[(v7).toNat]?).bind fun x12=>(spec_l05Digits x12).bind fun r13=>if (([47]:Str)).length+r13.length≤9223372036854775807 then if ((v6++r9)).length+((([47]:Str)++r13)).length≤9223372036854775807 then some ((v5,((v6++r9)++(([47]:Str)++r13)),v7)) else none else none else none else none else none else none else none
@[simp] theorem g47p2_eq (y0 y1 y2 y3):X g47_S g47p2_c [(1,(.ptr 0 0 0)),(3,(.str y2)),(4,(.int .i64 y3))] [(.live 2 [[(.vs (rows y0)),(.vs (rows y1))]])]=(spec_SpaceText_p2 ((y0,y1)) y2 y3).map g47p2_F:=by
  simp (maxSteps:=2000000) (maxDischargeDepth:=8) -implicitDefEqProofs [g47p2_c,spec_SpaceText_p2] <;> (try simp only [map_to_bind,some_elim,g47p2_F])
@[reducible,simp] def g47l1_F:Str→Out:=(fun t=>(.ext 0,[(3,(.str t))],[]))
def spec_SpaceText_l1_b (v2:List Int×List Int) (v3:Str) (v4:Int):Option (((List Int×List Int)×Str×Int) ⊕ (Str)):=if v4 < (v2.1.length:Int) then if v4 > 0 then if v3.length+(([44]:Str)).length≤9223372036854775807 then (spec_SpaceText_p2 v2 ((v3++([44]:Str))) v4).bind fun r14=>some (.inl (r14.1,r14.2.1,(IntKind.i64.wrap (r14.2.2+1)))) else none else (spec_SpaceText_p2 v2 v3 v4).bind fun r15=>some (.inl (r15.1,r15.2.1,(IntKind.i64.wrap (r15.2.2+1)))) else some (.inr v3)
theorem g47l1_b_eq  (v2:List Int×List Int) (v3:Str) (v4:Int):X g47_S g47l1_cb (keepEnv [1,3,4] [(1,(.ptr 0 0 0)),(3,(.str v3)),(4,(.int .i64 v4))]) [(.live 2 [[(.vs (rows v2.1)),(.vs (rows v2.2))]])]=(spec_SpaceText_l1_b v2 v3 v4).map (Sum.elim (fun s=>(TX.nrm,[(1,(.ptr 0 0 0)),(3,(.str s.2.1)),(4,(.int .i64 s.2.2))],[(.live 2 [[(.vs (rows s.1.1)),(.vs (rows s.1.2))]])])) g47l1_F):=by
  simp (maxSteps:=2000000) (maxDischargeDepth:=8) -implicitDefEqProofs [g47l1_cb,spec_SpaceText_l1_b] <;> (try simp only [map_to_bind,some_elim,g47l1_F])
def spec_SpaceText_l1  (s:(List Int×List Int)×Str×Int):Option (Str):=loopO (fun s=>spec_SpaceText_l1_b  s.1 s.2.1 s.2.2) s
@[simp] theorem g47l1_eq (y0 y1 y2 y3):X g47_S g47l1_c [(1,(.ptr 0 0 0)),(3,(.str y2)),(4,(.int .i64 y3))] [(.live 2 [[(.vs (rows y0)),(.vs (rows y1))]])]=(spec_SpaceText_l1  ((y0,y1),y2,y3)).map g47l1_F:=by
  exact loop_X _ _ _ _ (by intro r;first | (simp;done) | (rcases r with r | r <;> simp;done) | (rcases r with r | r | r <;> simp;done) | (rcases r with r | r | r | r <;> simp)) (fun s=>g47l1_b_eq   s.1 s.2.1 s.2.2) ((y0,y1),y2,y3)
def spec_SpaceText (a_s:List Int×List Int):Option (Str):=(spec_l05Space a_s).bind fun r1=>if ¬(r1=true) then some (([]:Str)) else (spec_SpaceText_l1 ((a_s,([]:Str),0))).bind fun r16=>if (([40]:Str)).length+r16.length≤9223372036854775807 then if ((([40]:Str)++r16)).length+(([41]:Str)).length≤9223372036854775807 then some (((([40]:Str)++r16)++([41]:Str))) else none else none
@[simp] def g47_O:Str→TV×List Blk:=fun r=>((.str r),[])
def g47_E (a:(List Int×List Int)):List TV:=[(.agg [(.vs (rows a.1)),(.vs (rows a.2))])]
theorem g47_run (a_s:List Int×List Int) :callFn (X g47_S) g47_tf (g47_E a_s) []=(spec_SpaceText a_s).map g47_O:=by
  rw [callFn_eq]
  simp (maxSteps:=2000000) (maxDischargeDepth:=8) -implicitDefEqProofs [g47_tf,spec_SpaceText,g47_E] <;> (try simp only [map_to_bind,some_elim,g47_O])
def g47_r:Rule:=RlO g47_E (fun a=>spec_SpaceText a) g47_O
theorem g47_ok:RuleOk Tryz.prog 42 g47_r:=ok_rlo (S:=g47_S) (tf:=g47_tf) (SysOk.on ⟨g50_ok,g46_ok,trivial⟩ trivial) (trE_ok (ks:=[[1,3,4]]) Tryz.func42 (by kernel_rfl)) fun a=>g47_run a
@[simp] theorem g47_app (y0 y1):g47_r [(.agg [(.vs (rows y0)),(.vs (rows y1))])]=(spec_SpaceText ((y0,y1))).map g47_O :=
  RlO_app (enc:=g47_E) (by intro a b h;simp [g47_E,Prod.ext_iff] at h ⊢;simp [h]) ((y0,y1))
/-! (*spec.l00Src).text -/
def g22_tf:TFn:=⟨(sq [mk 4 (.c (.str []))] [0,1] (.seq (.ops [mo 5 1,mo 6 0,mo 7 1,le 8 7,oo 9 (.callM 37 0 [0] [.t 6,.t 8]),ia 10 1 5 9,ld 11 10,mo 4 11]) (.keep (kp [(4,0)] [(0,0),(1,0)] 2) .ret))),[.t 4]⟩
abbrev g22_S:=Sys.on [] [((37,0),(1,g19_r))]
def spec_l00Src_text_o62 (a1:List Bt) (a2:Int) (a3:Int) (a4:List Str):Option (List Bt×Int×Int×List Str×Str):=(spec_l00Src_pick_o30 a1 a2 a3 (((a4.length:Nat):Int))).bind fun r1=>if 0≤r1.2.2.2∧r1.2.2.2 < ((a4.length:Nat):Int) then (a4[(r1.2.2.2).toNat]?).bind fun x2=>some (r1.1,r1.2.1,r1.2.2.1,a4,x2) else none
@[simp] def g22_O:(List Bt×Int×Int×List Str×Str)→TV×List Blk:=fun r=>((.str r.2.2.2.2),[(.live 3 [[(.vs (rows r.1)),(.int .i64 r.2.1),(.int .u64 r.2.2.1)]]),(.live 1 (rows r.2.2.2.1))])
abbrev g22_T:=List Bt×Int×Int×List Str
def g22_E (a:g22_T):List TV:=[(.ptr 0 0 0),(.hs 1 0 a.2.2.2.length true)]
def g22_B (a:g22_T):List Blk:=[(.live 3 [[(.vs (rows a.1)),(.int .i64 a.2.1),(.int .u64 a.2.2.1)]]),(.live 1 (rows a.2.2.2))]
theorem g22_run (a1:List Bt) (a2:Int) (a3:Int) (a4:List Str) :callFn (X g22_S) g22_tf (g22_E (a1,a2,a3,a4)) (g22_B (a1,a2,a3,a4))=(spec_l00Src_text_o62 a1 a2 a3 a4).map g22_O:=by
  rw [callFn_eq]
  simp (maxSteps:=2000000) (maxDischargeDepth:=8) -implicitDefEqProofs [g22_tf,spec_l00Src_text_o62,g22_E,g22_B] <;> (try simp only [map_to_bind,some_elim,g22_O])
def g22_r:MRule:=RmO g22_E g22_B (fun a=>(spec_l00Src_text_o62 a.1 a.2.1 a.2.2.1 a.2.2.2).bind fun r=>if r.2.2.2.1.length=a.2.2.2.length then some (r.1,r.2.1,r.2.2.1,(fixLen a.2.2.2 r.2.2.2.1),r.2.2.2.2) else none) g22_O
theorem g22_ok0:MRuleOk Tryz.prog 43 2 (RmO g22_E g22_B (fun a=>spec_l00Src_text_o62 a.1 a.2.1 a.2.2.1 a.2.2.2) g22_O):=ok_rmo (S:=g22_S) (tf:=g22_tf) (SysOk.on trivial ⟨g19_ok,trivial⟩) (trE_ok (ks:=[]) Tryz.func43 (by kernel_rfl)) (by rfl) (fun _=>by simp [g22_B]) (fun _=>by simp) fun a=>g22_run a.1 a.2.1 a.2.2.1 a.2.2.2
theorem g22_ok:MRuleOk Tryz.prog 43 2 g22_r:=g22_ok0.weak fun a r hr=>by
  simp only [Option.bind_eq_some_iff] at hr
  obtain ⟨x,h1,h2⟩:=hr
  split at h2
  · rename_i hc
    simp only [Option.some.injEq] at h2
    rw [h1,← h2]
    simp [fixLen,hc]
  · cases h2
@[simp] theorem g22_app (y0 y1 y2)(y3:List Str){n1:Nat}(h1:n1=y3.length):g22_r [(.ptr 0 0 0),(.hs 1 0 n1 true)] [(.live 3 [[(.vs (rows y0)),(.int .i64 y1),(.int .u64 y2)]]),(.live 1 (rows y3))]=((spec_l00Src_text_o62 y0 y1 y2 y3).bind fun r=>if r.2.2.2.1.length=y3.length then some (r.1,r.2.1,r.2.2.1,(fixLen y3 r.2.2.2.1),r.2.2.2.2) else none).map g22_O:=by
  subst h1
  exact RmO_app (enc:=g22_E) (encB:=g22_B) (by intro a b h h2;simp [g22_E,g22_B,Prod.ext_iff] at h h2 ⊢;simp [h,h2]) (y0,y1,y2,y3)
/-! spec.DrawReadSpace -/
def g26_tf:TFn:=⟨(sq [mk 2 (.c (.str []))] [0] (sq [mo 6 0,ca 7 34 [.t 6],mo 3 7] [3] (sq [mo 8 3,oo 9 (.callM 36 0 [0] [.t 8]),ca 10 42 [.t 9],mo 4 10] [3,4] (.seq (sq [mo 11 3,oo 12 (.callM 37 0 [0] [.t 11,ki 6])] [3,4,12] (.block 0 (sq [bn 14 .eql (.t 12) (ki 0),mo 13 14] [3,4,12,13] (.cond (.t 13) (sq [mo 15 3,mo 16 4,oo 17 (.len true (.t 16)),oo 18 (.callM 37 0 [0] [.t 15,.t 17]),mo 5 18] [3,4,5] (.after (.drawF [(none,mo 19 4),(none,mo 20 5),(none,oo 21 (.sliceS (.t 19) none (some (.t 20)))),(none,mo 22 3),(none,mo 26 4),(none,mo 27 5),(none,oo 28 (.sliceS (.t 26) (some (.t 27)) none)),(some [19,20,21,22,26,27,28],oo 23 (.bslice [(.str [])] 8 [(0,(.c (.str [48]))),(1,(.c (.str [47]))),(2,(.c (.str [42]))),(3,(.c (.str [44]))),(4,(.c (.str [40]))),(5,(.c (.str [41]))),(6,(.c (.str [32]))),(7,(.c (.str [52])))])),(some [19,20,21,26,27,28],oo 24 (.callM 43 0 [0,4] [.t 22,.t 23])),(none,oo 25 (.bin .str .add (.t 21) (.t 24)))] [oo 29 (.bin .str .add (.t 25) (.t 28)),mo 4 29]) (kp [(4,0)] [] 0))) (sq [bn 31 .eql (.t 12) (ki 1),mo 30 31] [3,4,30] (.cond (.t 30) (.after (.ops [mo 32 3,oo 33 (.bslice [(.str [])] 12 [(0,(.c (.str []))),(1,(.c (.str [40]))),(2,(.c (.str [40,41]))),(3,(.c (.str [40,52,47,52,41]))),(4,(.c (.str [40,48,52,41]))),(5,(.c (.str [40,53,47,52,41]))),(6,(.c (.str [40,52,49,41]))),(7,(.c (.str [40,49,44,49,44,49,44,49,41]))),(8,(.c (.str [40,51,47,42]))),(9,(.c (.str [40,45,49,41]))),(10,(.c (.str [40,44,41]))),(11,(.c (.str [91,52,93])))]),oo 34 (.callM 43 0 [0,4] [.t 32,.t 33]),mo 4 34]) (kp [(4,0)] [] 0)) (.keep (kp [(4,0)] [] 0) .skip))))))) (.trim [4] (.seq (.ops [mo 35 4,mo 2 35]) (.keep (kp [(2,0)] [] 0) .ret))))))),[.t 2]⟩
abbrev g26_S:=Sys.on [(34,g53_r),(42,g47_r)] [((36,0),(1,g14_r)),((37,0),(1,g19_r)),((43,0),(2,g22_r))]
def spec_DrawReadSpace (a_code:List Bt):Option (Str):=(spec_l00From a_code).bind fun r1=>(spec_l05DrawSpace_o9d r1.1 r1.2.1 r1.2.2).bind fun r2=>(spec_SpaceText r2.2.2.2).bind fun r3=>(spec_l00Src_pick_o30 r2.1 r2.2.1 r2.2.2.1 6).bind fun r4=>if r4.2.2.2=0 then (spec_l00Src_pick_o30 r4.1 r4.2.1 r4.2.2.1 ((r3.length:Int))).bind fun r5=>(subL r3 none (some r5.2.2.2)).bind fun s6=>(subL r3 (some r5.2.2.2) none).bind fun s7=>if subL r3 none (some r5.2.2.2)=some s6∧subL r3 (some r5.2.2.2) none=some s7 then (spec_l00Src_text_o62 r5.1 r5.2.1 r5.2.2.1 ((lit [([48]:Str),([47]:Str),([42]:Str),([44]:Str),([40]:Str),([41]:Str),([32]:Str),([52]:Str)]:List Str))).bind fun r8=>if r8.2.2.2.1.length=((lit [([48]:Str),([47]:Str),([42]:Str),([44]:Str),([40]:Str),([41]:Str),([32]:Str),([52]:Str)]:List Str)).length then if subL r3 none (some r5.2.2.2)=some s6∧subL r3 (some r5.2.2.2) none=some s7 then if s6.length+r8.2.2.2.2.length≤9223372036854775807 then if ((s6++r8.2.2.2.2)).length+s7.length≤9223372036854775807 then some (((s6++r8.2.2.2.2)++s7)) else none else none else none else none else none else if r4.2.2.2=1 then (spec_l00Src_text_o62 r4.1 r4.2.1 r4.2.2.1 ((lit [([]:Str),([40]:Str),([40,41]:Str),([40,52,47,52,41]:Str),([40,48,52,41]:Str),([40,53,47,52,41]:Str),([40,52,49,41]:Str),([40,49,44,49,44,49,44,49,41]:Str),([40,51,47,42]:Str),([40,45,49,41]:Str),([40,44,41]:Str),([91,52,93]:Str)]:List Str))).bind fun r9=>if r9.2.2.2.1.length=((lit [([]:Str),([40]:Str),([40,41]:Str),([40,52,47,52,41]:Str),([40,48,52,41]:Str),([40,53,47,52,41]:Str),([40,52,49,41]:Str),([40,49,44,49,44,49,44,49,41]:Str),([40,51,47,42]:Str),([40,45,49,41]:Str),([40,44,41]:Str),([91,52,93]:Str)]:List Str)).length then some r9.2.2.2.2 else none else some r3
@[simp] def g26_O:Str→TV×List Blk:=fun r=>((.str r),[])
def g26_E (a:List Bt):List TV:=[(.vs (rows a))]
theorem g26_run (a_code:List Bt) :callFn (X g26_S) g26_tf (g26_E a_code) []=(spec_DrawReadSpace a_code).map g26_O:=by
  rw [callFn_eq]
  simp (maxSteps:=2000000) (maxDischargeDepth:=8) -implicitDefEqProofs [g26_tf,spec_DrawReadSpace,g26_E,bslV_lit (α:=Str) (zs:=[(.str [])])] <;> (try simp only [map_to_bind,some_elim,g26_O])
def g26_r:Rule:=RlO g26_E (fun a=>spec_DrawReadSpace a) g26_O
theorem g26_ok:RuleOk Tryz.prog 11 g26_r:=ok_rlo (S:=g26_S) (tf:=g26_tf) (SysOk.on ⟨g53_ok,g47_ok,trivial⟩ ⟨g14_ok,g19_ok,g22_ok,trivial⟩) (trE_ok (ks:=[[10,2000000,12,0,1,2,3,7,8,9,4,5,6,10,11,0,0,0,0,0,0,0,8,19,20,21,22,26,27,28,7,19,20,21,26,27,28,0]]) Tryz.func11 (by kernel_rfl)) fun a=>g26_run a
@[simp] theorem g26_app (y0):g26_r [(.vs (rows y0))]=(spec_DrawReadSpace y0).map g26_O :=
  RlO_app (enc:=g26_E) (by intro a b h;simp [g26_E,Prod.ext_iff] at h ⊢;simp [h]) y0
/-! internal/stringslite.HasPrefix -/
def g2_tf:TFn:=⟨(sq [mk 4 (kb false)] [0,1] (.seq (.after (.ops [mo 5 0,oo 6 (.len true (.t 5)),mo 7 1,oo 8 (.len true (.t 7)),bn 9 .geq (.t 6) (.t 8),mo 10 9,⟨(some 11),(some (10,true)),(.mv (.t 0))⟩,⟨(some 12),(some (10,true)),(.mv (.t 1))⟩,⟨(some 13),(some (10,true)),(.len true (.t 12))⟩,⟨(some 14),(some (10,true)),(.sliceS (.t 11) none (some (.t 13)))⟩,⟨(some 15),(some (10,true)),(.mv (.t 1))⟩,⟨(some 16),(some (10,true)),(.bin .str .eql (.t 14) (.t 15))⟩,pk 17 (.t 10) (.t 16) (kb false),mo 4 17]) (kp [(4,0)] [] 0)) (.keep (kp [(4,0)] [] 0) .ret))),[.t 4]⟩
abbrev g2_S:=Sys.on [] []
def internal_stringslite_HasPrefix (a_s:Str) (a_prefix:Str):Option (Bool):=if (a_s.length:Int) ≥ (a_prefix.length:Int) then (subL a_s none (some ((a_prefix.length:Int)))).bind fun s1=>some ((decide (s1=a_prefix))) else some false
@[simp] def g2_O:Bool→TV×List Blk:=fun r=>((.bool r),[])
def g2_E (a:Str×Str):List TV:=[(.str a.1),(.str a.2)]
theorem g2_run (a_s:Str) (a_prefix:Str) :callFn (X g2_S) g2_tf (g2_E (a_s,a_prefix)) []=(internal_stringslite_HasPrefix a_s a_prefix).map g2_O:=by
  rw [callFn_eq]
  simp (maxSteps:=2000000) (maxDischargeDepth:=8) -implicitDefEqProofs [g2_tf,internal_stringslite_HasPrefix,g2_E] <;> (try simp only [map_to_bind,some_elim,g2_O])
def g2_r:Rule:=RlO g2_E (fun a=>internal_stringslite_HasPrefix a.1 a.2) g2_O
theorem g2_ok:RuleOk Tryz.prog 211 g2_r:=ok_rlo (S:=g2_S) (tf:=g2_tf) (SysOk.on trivial trivial) (trE_ok (ks:=[]) Tryz.func211 (by kernel_rfl)) fun a=>g2_run a.1 a.2
@[simp] theorem g2_app (y0 y1):g2_r [(.str y0),(.str y1)]=(internal_stringslite_HasPrefix y0 y1).map g2_O :=
  RlO_app (enc:=g2_E) (by intro a b h;simp [g2_E,Prod.ext_iff] at h ⊢;simp [h]) (y0,y1)
/-! internal/stringslite.CutPrefix -/
def g3_tf:TFn:=⟨(sq [mk 4 (.c (.str [])),mk 5 (kb false)] [0,1] (.seq (sq [mo 6 0,mo 7 1,ca 8 211 [.t 6,.t 7],nt 9 8] [0,1,9] (.cond (.t 9) (.seq (.ops [mo 10 0,mo 4 10,mk 5 (kb false)]) (.keep (kp [(4,0),(5,0)] [] 0) .ret)) .skip)) (.trim [0,1] (.seq (.ops [mo 11 0,mo 12 1,oo 13 (.len true (.t 12)),oo 14 (.sliceS (.t 11) (some (.t 13)) none),mo 4 14,mk 5 (kb true)]) (.keep (kp [(4,0),(5,0)] [] 0) .ret))))),[.t 4,.t 5]⟩
abbrev g3_S:=Sys.on [(211,g2_r)] []
def internal_stringslite_CutPrefix (a_s:Str) (a_prefix:Str):Option (Str×Bool):=(internal_stringslite_HasPrefix a_s a_prefix).bind fun r1=>if ¬(r1=true) then some (a_s,false) else (subL a_s (some ((a_prefix.length:Int))) none).bind fun s2=>some (s2,true)
@[simp] def g3_O:(Str×Bool)→TV×List Blk:=fun r=>((.tup [(.str r.1),(.bool r.2)]),[])
def g3_E (a:Str×Str):List TV:=[(.str a.1),(.str a.2)]
theorem g3_run (a_s:Str) (a_prefix:Str) :callFn (X g3_S) g3_tf (g3_E (a_s,a_prefix)) []=(internal_stringslite_CutPrefix a_s a_prefix).map g3_O:=by
  rw [callFn_eq]
  simp (maxSteps:=2000000) (maxDischargeDepth:=8) -implicitDefEqProofs [g3_tf,internal_stringslite_CutPrefix,g3_E] <;> (try simp only [map_to_bind,some_elim,g3_O])
def g3_r:Rule:=RlO g3_E (fun a=>internal_stringslite_CutPrefix a.1 a.2) g3_O
theorem g3_ok:RuleOk Tryz.prog 174 g3_r:=ok_rlo (S:=g3_S) (tf:=g3_tf) (SysOk.on ⟨g2_ok,trivial⟩ trivial) (trE_ok (ks:=[]) Tryz.func174 (by kernel_rfl)) fun a=>g3_run a.1 a.2
@[simp] theorem g3_app (y0 y1):g3_r [(.str y0),(.str y1)]=(internal_stringslite_CutPrefix y0 y1).map g3_O :=
  RlO_app (enc:=g3_E) (by intro a b h;simp [g3_E,Prod.ext_iff] at h ⊢;simp [h]) (y0,y1)
/-! strings.CutPrefix -/
def g29_tf:TFn:=⟨(sq [mk 4 (.c (.str [])),mk 5 (kb false)] [0,1] (.seq (.ops [mo 6 0,mo 7 1,ca 8 174 [.t 6,.t 7],oo 9 (.ext (.t 8) 0),oo 10 (.ext (.t 8) 1),mo 4 9,mo 5 10]) (.keep (kp [(4,0),(5,0)] [] 0) .ret))),[.t 4,.t 5]⟩
abbrev g29_S:=Sys.on [(174,g3_r)] []
def strings_CutPrefix (a_s:Str) (a_prefix:Str):Option (Str×Bool):=(internal_stringslite_CutPrefix a_s a_prefix).bind fun r1=>some (r1.1,r1.2)
@[simp] def g29_O:(Str×Bool)→TV×List Blk:=fun r=>((.tup [(.str r.1),(.bool r.2)]),[])
def g29_E (a:Str×Str):List TV:=[(.str a.1),(.str a.2)]
theorem g29_run (a_s:Str) (a_prefix:Str) :callFn (X g29_S) g29_tf (g29_E (a_s,a_prefix)) []=(strings_CutPrefix a_s a_prefix).map g29_O:=by
  rw [callFn_eq]
  simp (maxSteps:=2000000) (maxDischargeDepth:=8) -implicitDefEqProofs [g29_tf,strings_CutPrefix,g29_E] <;> (try simp only [map_to_bind,some_elim,g29_O])
def g29_r:Rule:=RlO g29_E (fun a=>strings_CutPrefix a.1 a.2) g29_O
theorem g29_ok:RuleOk Tryz.prog 127 g29_r:=ok_rlo (S:=g29_S) (tf:=g29_tf) (SysOk.on ⟨g3_ok,trivial⟩ trivial) (trE_ok (ks:=[]) Tryz.func127 (by kernel_rfl)) fun a=>g29_run a.1 a.2
@[simp] theorem g29_app (y0 y1):g29_r [(.str y0),(.str y1)]=(strings_CutPrefix y0 y1).map g29_O :=
  RlO_app (enc:=g29_E) (by intro a b h;simp [g29_E,Prod.ext_iff] at h ⊢;simp [h]) (y0,y1)
/-! (*impl.scanner).accept -/
def g6_tf:TFn:=⟨(sq [mk 4 (kb false)] [0,1] (sq [mo 8 0,nk 9 8,fa 10 0 9,ld 11 10,mo 12 1,ca 13 127 [.t 11,.t 12],mo 7 13,oo 14 (.ext (.t 7) 0),oo 15 (.ext (.t 7) 1),mo 5 14,mo 6 15] [0,5,6] (sq [mo 16 0,mo 17 5,nk 18 16,fa 19 0 18,⟨none,none,(.store 1 (.t 19) (.t 17))⟩] [6] (.seq (.ops [mo 20 6,mo 4 20]) (.keep (kp [(4,0)] [(0,0)] 1) .ret))))),[.t 4]⟩
abbrev g6_S:=Sys.on [(127,g29_r)] []
def impl_scanner_accept_o0b (a1:Str×Bool) (a2:Str):Option ((Str×Bool)×Bool):=(strings_CutPrefix a1.1 a2).bind fun r1=>some ((r1.1,a1.2),r1.2)
@[simp] def g6_O:((Str×Bool)×Bool)→TV×List Blk:=fun r=>((.bool r.2),[(.live 2 [[(.str r.1.1),(.bool r.1.2)]])])
abbrev g6_T:=(Str×Bool)×Str
def g6_E (a:g6_T):List TV:=[(.ptr 0 0 0),(.str a.2)]
def g6_B (a:g6_T):List Blk:=[(.live 2 [[(.str a.1.1),(.bool a.1.2)]])]
theorem g6_run (a1:Str×Bool) (a2:Str) :callFn (X g6_S) g6_tf (g6_E (a1,a2)) (g6_B (a1,a2))=(impl_scanner_accept_o0b a1 a2).map g6_O:=by
  rw [callFn_eq]
  simp (maxSteps:=2000000) (maxDischargeDepth:=8) -implicitDefEqProofs [g6_tf,impl_scanner_accept_o0b,g6_E,g6_B] <;> (try simp only [map_to_bind,some_elim,g6_O])
def g6_r:MRule:=RmO g6_E g6_B (fun a=>impl_scanner_accept_o0b a.1 a.2) g6_O
theorem g6_ok:MRuleOk Tryz.prog 84 1 g6_r:=ok_rmo (S:=g6_S) (tf:=g6_tf) (SysOk.on ⟨g29_ok,trivial⟩ trivial) (trE_ok (ks:=[]) Tryz.func84 (by kernel_rfl)) (by rfl) (fun _=>by simp [g6_B]) (fun _=>by simp) fun a=>g6_run a.1 a.2
@[simp] theorem g6_app (y0 y1 y2):g6_r [(.ptr 0 0 0),(.str y2)] [(.live 2 [[(.str y0),(.bool y1)]])]=(impl_scanner_accept_o0b ((y0,y1)) y2).map g6_O:=by
  exact RmO_app (enc:=g6_E) (encB:=g6_B) (by intro a b h h2;simp [g6_E,g6_B,Prod.ext_iff] at h h2 ⊢;simp [h,h2]) ((y0,y1),y2)
/-! (*impl.scanner).expect -/
def g7_tf:TFn:=⟨(sq [mo 4 0,mo 5 1,oo 6 (.callM 84 0 [0] [.t 4,.t 5]),nt 7 6] [0,7] (.cond (.t 7) (.after (.ops [mo 8 0,nk 9 8,fa 10 1 9,⟨none,none,(.store 1 (.t 10) (kb true))⟩]) (kp [] [(0,0)] 1)) (.keep (kp [] [(0,0)] 1) .skip))),[]⟩
abbrev g7_S:=Sys.on [] [((84,0),(1,g6_r))]
def impl_scanner_expect_o0b (a1:Str×Bool) (a2:Str):Option ((Str×Bool)):=(impl_scanner_accept_o0b a1 a2).bind fun r1=>if ¬(r1.2=true) then some ((r1.1.1,true)) else some r1.1
@[simp] def g7_O:((Str×Bool))→TV×List Blk:=fun r=>((.tup []),[(.live 2 [[(.str r.1),(.bool r.2)]])])
abbrev g7_T:=(Str×Bool)×Str
def g7_E (a:g7_T):List TV:=[(.ptr 0 0 0),(.str a.2)]
def g7_B (a:g7_T):List Blk:=[(.live 2 [[(.str a.1.1),(.bool a.1.2)]])]
theorem g7_run (a1:Str×Bool) (a2:Str) :callFn (X g7_S) g7_tf (g7_E (a1,a2)) (g7_B (a1,a2))=(impl_scanner_expect_o0b a1 a2).map g7_O:=by
  rw [callFn_eq]
  simp (maxSteps:=2000000) (maxDischargeDepth:=8) -implicitDefEqProofs [g7_tf,impl_scanner_expect_o0b,g7_E,g7_B] <;> (try simp only [map_to_bind,some_elim,g7_O])
def g7_r:MRule:=RmO g7_E g7_B (fun a=>impl_scanner_expect_o0b a.1 a.2) g7_O
theorem g7_ok:MRuleOk Tryz.prog 83 1 g7_r:=ok_rmo (S:=g7_S) (tf:=g7_tf) (SysOk.on trivial ⟨g6_ok,trivial⟩) (trE_ok (ks:=[]) Tryz.func83 (by kernel_rfl)) (by rfl) (fun _=>by simp [g7_B]) (fun _=>by simp) fun a=>g7_run a.1 a.2
@[simp] theorem g7_app (y0 y1 y2):g7_r [(.ptr 0 0 0),(.str y2)] [(.live 2 [[(.str y0),(.bool y1)]])]=(impl_scanner_expect_o0b ((y0,y1)) y2).map g7_O:=by
  exact RmO_app (enc:=g7_E) (encB:=g7_B) (by intro a b h h2;simp [g7_E,g7_B,Prod.ext_iff] at h h2 ⊢;simp [h,h2]) ((y0,y1),y2)
/-! impl.isDigit -/
def g57_tf:TFn:=⟨(sq [mk 2 (kb false)] [0] (.seq (.after (.ops [mo 3 0,oo 4 (.bin .num .geq (.t 3) (.c (.int .u8 48))),mo 5 4,⟨(some 6),(some (5,true)),(.mv (.t 0))⟩,⟨(some 7),(some (5,true)),(.bin .num .leq (.t 6) (.c (.int .u8 57)))⟩,pk 8 (.t 5) (.t 7) (kb false),mo 2 8]) (kp [(2,0)] [] 0)) (.keep (kp [(2,0)] [] 0) .ret))),[.t 2]⟩
abbrev g57_S:=Sys.on [] []
def impl_isDigit (a_c:Int):Option (Bool):=if a_c ≥ 48 then some ((decide (a_c≤57))) else some false
@[simp] def g57_O:Bool→TV×List Blk:=fun r=>((.bool r),[])
def g57_E (a:Int):List TV:=[(.int .u8 a)]
theorem g57_run (a_c:Int) :callFn (X g57_S) g57_tf (g57_E a_c) []=(impl_isDigit a_c).map g57_O:=by
  rw [callFn_eq]
  simp (maxSteps:=2000000) (maxDischargeDepth:=8) -implicitDefEqProofs [g57_tf,impl_isDigit,g57_E] <;> (try simp only [map_to_bind,some_elim,g57_O])
def g57_r:Rule:=RlO g57_E (fun a=>impl_isDigit a) g57_O
theorem g57_ok:RuleOk Tryz.prog 131 g57_r:=ok_rlo (S:=g57_S) (tf:=g57_tf) (SysOk.on trivial trivial) (trE_ok (ks:=[]) Tryz.func131 (by kernel_rfl)) fun a=>g57_run a
@[simp] theorem g57_app (y0):g57_r [(.int .u8 y0)]=(impl_isDigit y0).map g57_O :=
  RlO_app (enc:=g57_E) (by intro a b h;simp [g57_E,Prod.ext_iff] at h ⊢;simp [h]) y0
/-! (*impl.scanner).number.1 -/
def g10_tf:TFn:=⟨(sq [mk 2 (kb false)] [0] (.seq (.after (.ops [mo 3 0,ca 4 131 [.t 3],mo 5 4,⟨(some 6),(some (5,false)),(.mv (.t 0))⟩,⟨(some 7),(some (5,false)),(.bin .num .eql (.t 6) (.c (.int .u8 45)))⟩,pk 8 (.t 5) (kb true) (.t 7),mo 2 8]) (kp [(2,0)] [] 0)) (.keep (kp [(2,0)] [] 0) .ret))),[.t 2]⟩
abbrev g10_S:=Sys.on [(131,g57_r)] []
def impl_scanner_number_c1 (a_c:Int):Option (Bool):=(impl_isDigit a_c).bind fun r1=>if r1=true then some true else some ((decide (a_c=45)))
@[simp] def g10_O:Bool→TV×List Blk:=fun r=>((.bool r),[])
def g10_E (a:Int):List TV:=[(.int .u8 a)]
theorem g10_run (a_c:Int) :callFn (X g10_S) g10_tf (g10_E a_c) []=(impl_scanner_number_c1 a_c).map g10_O:=by
  rw [callFn_eq]
  simp (maxSteps:=2000000) (maxDischargeDepth:=8) -implicitDefEqProofs [g10_tf,impl_scanner_number_c1,g10_E] <;> (try simp only [map_to_bind,some_elim,g10_O])
def g10_r:Rule:=RlO g10_E (fun a=>impl_scanner_number_c1 a) g10_O
theorem g10_ok:RuleOk Tryz.prog 130 g10_r:=ok_rlo (S:=g10_S) (tf:=g10_tf) (SysOk.on ⟨g57_ok,trivial⟩ trivial) (trE_ok (ks:=[]) Tryz.func130 (by kernel_rfl)) fun a=>g10_run a
@[simp] theorem g10_app (y0):g10_r [(.int .u8 y0)]=(impl_scanner_number_c1 y0).map g10_O :=
  RlO_app (enc:=g10_E) (by intro a b h;simp [g10_E,Prod.ext_iff] at h ⊢;simp [h]) y0
end
end Go.Proofs.TM
