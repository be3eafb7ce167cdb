/- Functions of the program, as functions of their data: written by program. -/
import Derived.Test.YtakhpblefnpjcaaDoorST1
namespace Go.Proofs.TM
open Go Go.Proofs
set_option linter.unusedVariables false
set_option linter.unusedSimpArgs false
set_option maxHeartbeats 1000000
attribute [-simp] Option.map_bind strV_some
attribute [simp] guardOn_bool sA_bslice Function.comp_def
noncomputable section
/-! slices.ContainsFunc[[]int64,int64] -/
def g4_tf:TFn:=⟨(sq [mk 4 (kb false)] [0,1] (.seq (.ops [mo 5 0,mo 6 1,ca 7 160 [.t 5,.t 6],bn 8 .geq (.t 7) (ki 0),mo 4 8]) (.keep (kp [(4,0)] [] 0) .ret))),[.t 4]⟩
abbrev g4_S:=Sys.on [(160,g5_r)] []
def slices_ContainsFunc_int64_int64__allWithin_c1 (a_s:List Int) (a_f:Int) (a_f':Int):Option (Bool):=(slices_IndexFunc_int64_int64__allWithin_c1 a_s a_f a_f').bind fun r1=>some ((decide (r1 ≥ 0)))
@[simp] def g4_O:Bool→TV×List Blk:=fun r=>((.bool r),[])
def g4_E (a:List Int×Int×Int):List TV:=[(.vs (rows a.1)),(.fn 143 [] [(.vp [(.int .i64 a.2.1)]),(.vp [(.int .i64 a.2.2)])])]
theorem g4_run (a_s:List Int) (a_f:Int) (a_f':Int) :callFn (X g4_S) g4_tf (g4_E (a_s,a_f,a_f')) []=(slices_ContainsFunc_int64_int64__allWithin_c1 a_s a_f a_f').map g4_O:=by
  rw [callFn_eq]
  simp (maxSteps:=2000000) (maxDischargeDepth:=8) -implicitDefEqProofs [g4_tf,slices_ContainsFunc_int64_int64__allWithin_c1,g4_E] <;> (try simp only [map_to_bind,some_elim,g4_O])
def g4_r:Rule:=RlO g4_E (fun a=>slices_ContainsFunc_int64_int64__allWithin_c1 a.1 a.2.1 a.2.2) g4_O
theorem g4_ok:RuleOk Tryd.prog 142 g4_r:=ok_rlo (S:=g4_S) (tf:=g4_tf) (SysOk.on ⟨g5_ok,trivial⟩ trivial) (trE_ok (ks:=[]) Tryd.func142 (by kernel_rfl)) fun a=>g4_run a.1 a.2.1 a.2.2
@[simp] theorem g4_app (y0 y1 y2):g4_r [(.vs (rows y0)),(.fn 143 [] [(.vp [(.int .i64 y1)]),(.vp [(.int .i64 y2)])])]=(slices_ContainsFunc_int64_int64__allWithin_c1 y0 y1 y2).map g4_O :=
  RlO_app (enc:=g4_E) (by intro a b h;simp [g4_E,Prod.ext_iff] at h ⊢;simp [h]) (y0,y1,y2)
/-! impl.allWithin -/
def g27_tf:TFn:=⟨(sq [bx 4 1,bx 5 2,mk 6 (kb false)] [0,4,5] (.seq (.ops [mo 7 0,oo 8 (.mkfn 143 [] [.t 4,.t 5]),ca 9 142 [.t 7,.t 8],nt 10 9,mo 6 10]) (.keep (kp [(6,0)] [] 0) .ret))),[.t 6]⟩
abbrev g27_S:=Sys.on [(142,g4_r)] []
def impl_allWithin (a_list:List Int) (a_low:Int) (a_high:Int):Option (Bool):=(slices_ContainsFunc_int64_int64__allWithin_c1 a_list a_low a_high).bind fun r1=>some ((!r1))
@[simp] def g27_O:Bool→TV×List Blk:=fun r=>((.bool r),[])
def g27_E (a:List Int×Int×Int):List TV:=[(.vs (rows a.1)),(.int .i64 a.2.1),(.int .i64 a.2.2)]
theorem g27_run (a_list:List Int) (a_low:Int) (a_high:Int) :callFn (X g27_S) g27_tf (g27_E (a_list,a_low,a_high)) []=(impl_allWithin a_list a_low a_high).map g27_O:=by
  rw [callFn_eq]
  simp (maxSteps:=2000000) (maxDischargeDepth:=8) -implicitDefEqProofs [g27_tf,impl_allWithin,g27_E] <;> (try simp only [map_to_bind,some_elim,g27_O])
def g27_r:Rule:=RlO g27_E (fun a=>impl_allWithin a.1 a.2.1 a.2.2) g27_O
theorem g27_ok:RuleOk Tryd.prog 109 g27_r:=ok_rlo (S:=g27_S) (tf:=g27_tf) (SysOk.on ⟨g4_ok,trivial⟩ trivial) (trE_ok (ks:=[]) Tryd.func109 (by kernel_rfl)) fun a=>g27_run a.1 a.2.1 a.2.2
@[simp] theorem g27_app (y0 y1 y2):g27_r [(.vs (rows y0)),(.int .i64 y1),(.int .i64 y2)]=(impl_allWithin y0 y1 y2).map g27_O :=
  RlO_app (enc:=g27_E) (by intro a b h;simp [g27_E,Prod.ext_iff] at h ⊢;simp [h]) (y0,y1,y2)
/-! (impl.Selection).pointsFormed.1 -/
def g6_tf:TFn:=⟨(sq [bx 2 0,mk 3 (kb false)] [1,2] (.seq (.after (.ops [fa 4 0 2,ld 5 4,le 6 5,ld 7 1,bn 8 .neq (.t 6) (.t 7),mo 9 8,⟨(some 10),(some (9,false)),(.faddr 0 (.t 2))⟩,⟨(some 11),(some (9,false)),(.load none (.t 10))⟩,⟨(some 12),(some (9,false)),(.call 109 [.t 11,ki 0,ki 39])⟩,⟨(some 13),(some (9,false)),(.un .not (.t 12))⟩,pk 14 (.t 9) (kb true) (.t 13),mo 3 14]) (kp [(3,0)] [] 0)) (.keep (kp [(3,0)] [] 0) .ret))),[.t 3]⟩
abbrev g6_S:=Sys.on [(109,g27_r)] []
def impl_Selection_pointsFormed_c1 (a_p:List Int) (a_p':Int):Option (Bool):=if ¬((a_p.length:Int)=a_p') then some true else (impl_allWithin a_p 0 39).bind fun r1=>some ((!r1))
@[simp] def g6_O:Bool→TV×List Blk:=fun r=>((.bool r),[])
def g6_E (a:List Int×Int):List TV:=[(.agg [(.vs (rows a.1))]),(.vp [(.int .i64 a.2)])]
theorem g6_run (a_p:List Int) (a_p':Int) :callFn (X g6_S) g6_tf (g6_E (a_p,a_p')) []=(impl_Selection_pointsFormed_c1 a_p a_p').map g6_O:=by
  rw [callFn_eq]
  simp (maxSteps:=2000000) (maxDischargeDepth:=8) -implicitDefEqProofs [g6_tf,impl_Selection_pointsFormed_c1,g6_E] <;> (try simp only [map_to_bind,some_elim,g6_O])
def g6_r:Rule:=RlO g6_E (fun a=>impl_Selection_pointsFormed_c1 a.1 a.2) g6_O
theorem g6_ok:RuleOk Tryd.prog 123 g6_r:=ok_rlo (S:=g6_S) (tf:=g6_tf) (SysOk.on ⟨g27_ok,trivial⟩ trivial) (trE_ok (ks:=[]) Tryd.func123 (by kernel_rfl)) fun a=>g6_run a.1 a.2
@[simp] theorem g6_app (y0 y1):g6_r [(.agg [(.vs (rows y0))]),(.vp [(.int .i64 y1)])]=(impl_Selection_pointsFormed_c1 y0 y1).map g6_O :=
  RlO_app (enc:=g6_E) (by intro a b h;simp [g6_E,Prod.ext_iff] at h ⊢;simp [h]) (y0,y1)
/-! slices.IndexFunc[[]impl.Point,impl.Point] -/
def g3l1_cb:TC:=(sq [bn 9 .lss (.t 8) (.t 7)] [0,1,7,8,9] (.seq (.cond (.t 9) .skip (.keep (kp [] [] 0) (.exit 0))) (.trim [0,1,7,8] (.seq (.block 1 (sq [mo 10 8,mo 5 10] [0,1,5,7,8] (sq [mo 11 1,mo 12 0,mo 13 5,ia 14 1 12 13,ln 15 1 14,oo 16 (.callv (.t 11) [.t 15])] [0,1,5,7,8,16] (.cond (.t 16) (.seq (.ops [mo 17 5,mo 4 17]) (.keep (kp [(4,0)] [] 0) .ret)) .skip)))) (.trim [0,1,7,8] (.after (.ops [bn 18 .add (.t 8) (ki 1),mo 8 18]) (kp [(0,0),(1,0),(7,0),(8,0)] [] 0)))))))
def g3l1_c:TC:=.loop [0,1,7,8] g3l1_cb
def g3_tf:TFn:=⟨(sq [mk 4 (ki 0)] [0,1] (.seq (sq [mo 6 0,le 7 6,mk 8 (ki 0)] [0,1,7,8] (.block 0 (.keep (kp [(0,0),(1,0),(7,0),(8,0)] [] 0) g3l1_c))) (.trim [] (.seq (.ops [mk 4 (ki (-1))]) (.keep (kp [(4,0)] [] 0) .ret))))),[.t 4]⟩
abbrev g3_S:=Sys.on [(123,g6_r)] []
@[reducible,simp] def g3l1_F:((Unit) ⊕ (Int))→Out:=(Sum.elim (fun t=>(.ext 0,[],[])) (fun t=>(.ret,[(4,(.int .i64 t))],[])))
def slices_IndexFunc_impl_Point_impl_Point__Selection_pointsFormed_c1_l1_b (v1:List (List Int)) (v2:Int) (v3:Int) (v4:Int):Option ((Int) ⊕ ((Unit) ⊕ (Int))):=if v4 < v3 then if 0≤v4 then (v1[(v4).toNat]?).bind fun x5=>(impl_Selection_pointsFormed_c1 x5 v2).bind fun r6=>if r6=true then some (.inr (.inr v4)) else some (.inl ((IntKind.i64.wrap (v4+1)))) else none else some (.inr (.inl ()))
theorem g3l1_b_eq  (v1:List (List Int)) (v2:Int) (v3:Int) (v4:Int):X g3_S g3l1_cb (keepEnv [0,1,7,8] [(0,(.vs (rows v1))),(1,(.fn 123 [] [(.vp [(.int .i64 v2)])])),(7,(.int .i64 v3)),(8,(.int .i64 v4))]) []=(slices_IndexFunc_impl_Point_impl_Point__Selection_pointsFormed_c1_l1_b v1 v2 v3 v4).map (Sum.elim (fun s=>(TX.nrm,[(0,(.vs (rows v1))),(1,(.fn 123 [] [(.vp [(.int .i64 v2)])])),(7,(.int .i64 v3)),(8,(.int .i64 s))],[])) g3l1_F):=by
  simp (maxSteps:=2000000) (maxDischargeDepth:=8) -implicitDefEqProofs [g3l1_cb,slices_IndexFunc_impl_Point_impl_Point__Selection_pointsFormed_c1_l1_b] <;> (try simp only [map_to_bind,some_elim,g3l1_F])
def slices_IndexFunc_impl_Point_impl_Point__Selection_pointsFormed_c1_l1 (v1:List (List Int)) (v2:Int) (v3:Int) (s:Int):Option ((Unit) ⊕ (Int)):=loopO (fun s=>slices_IndexFunc_impl_Point_impl_Point__Selection_pointsFormed_c1_l1_b v1 v2 v3 s) s
@[simp] theorem g3l1_eq (y0 y1 y2 y3):X g3_S g3l1_c [(0,(.vs (rows y0))),(1,(.fn 123 [] [(.vp [(.int .i64 y1)])])),(7,(.int .i64 y2)),(8,(.int .i64 y3))] []=(slices_IndexFunc_impl_Point_impl_Point__Selection_pointsFormed_c1_l1 y0 y1 y2 y3).map g3l1_F:=by
  exact loop_X _ _ _ _ (by intro r;first | (simp;done) | (rcases r with r | r <;> simp;done) | (rcases r with r | r | r <;> simp;done) | (rcases r with r | r | r | r <;> simp)) (fun s=>g3l1_b_eq  y0 y1 y2 s) y3
def slices_IndexFunc_impl_Point_impl_Point__Selection_pointsFormed_c1 (a_s:List (List Int)) (a_f:Int):Option (Int):=(slices_IndexFunc_impl_Point_impl_Point__Selection_pointsFormed_c1_l1 a_s a_f ((a_s.length:Int)) 0).bind fun r7=>Sum.elim (fun u8=>some ((-1))) (fun u9=>some u9) r7
@[simp] def g3_O:Int→TV×List Blk:=fun r=>((.int .i64 r),[])
def g3_E (a:List (List Int)×Int):List TV:=[(.vs (rows a.1)),(.fn 123 [] [(.vp [(.int .i64 a.2)])])]
theorem g3_run (a_s:List (List Int)) (a_f:Int) :callFn (X g3_S) g3_tf (g3_E (a_s,a_f)) []=(slices_IndexFunc_impl_Point_impl_Point__Selection_pointsFormed_c1 a_s a_f).map g3_O:=by
  rw [callFn_eq]
  simp (maxSteps:=2000000) (maxDischargeDepth:=8) -implicitDefEqProofs [g3_tf,slices_IndexFunc_impl_Point_impl_Point__Selection_pointsFormed_c1,g3_E] <;> (try simp only [map_to_bind,some_elim,g3_O])
def g3_r:Rule:=RlO g3_E (fun a=>slices_IndexFunc_impl_Point_impl_Point__Selection_pointsFormed_c1 a.1 a.2) g3_O
theorem g3_ok:RuleOk Tryd.prog 145 g3_r:=ok_rlo (S:=g3_S) (tf:=g3_tf) (SysOk.on ⟨g6_ok,trivial⟩ trivial) (trE_ok (ks:=[[0,1,7,8]]) Tryd.func145 (by kernel_rfl)) fun a=>g3_run a.1 a.2
@[simp] theorem g3_app (y0 y1):g3_r [(.vs (rows y0)),(.fn 123 [] [(.vp [(.int .i64 y1)])])]=(slices_IndexFunc_impl_Point_impl_Point__Selection_pointsFormed_c1 y0 y1).map g3_O :=
  RlO_app (enc:=g3_E) (by intro a b h;simp [g3_E,Prod.ext_iff] at h ⊢;simp [h]) (y0,y1)
/-! slices.ContainsFunc[[]impl.Point,impl.Point] -/
def g2_tf:TFn:=⟨(sq [mk 4 (kb false)] [0,1] (.seq (.ops [mo 5 0,mo 6 1,ca 7 145 [.t 5,.t 6],bn 8 .geq (.t 7) (ki 0),mo 4 8]) (.keep (kp [(4,0)] [] 0) .ret))),[.t 4]⟩
abbrev g2_S:=Sys.on [(145,g3_r)] []
def slices_ContainsFunc_impl_Point_impl_Point__Selection_pointsFormed_c1 (a_s:List (List Int)) (a_f:Int):Option (Bool):=(slices_IndexFunc_impl_Point_impl_Point__Selection_pointsFormed_c1 a_s a_f).bind fun r1=>some ((decide (r1 ≥ 0)))
@[simp] def g2_O:Bool→TV×List Blk:=fun r=>((.bool r),[])
def g2_E (a:List (List Int)×Int):List TV:=[(.vs (rows a.1)),(.fn 123 [] [(.vp [(.int .i64 a.2)])])]
theorem g2_run (a_s:List (List Int)) (a_f:Int) :callFn (X g2_S) g2_tf (g2_E (a_s,a_f)) []=(slices_ContainsFunc_impl_Point_impl_Point__Selection_pointsFormed_c1 a_s a_f).map g2_O:=by
  rw [callFn_eq]
  simp (maxSteps:=2000000) (maxDischargeDepth:=8) -implicitDefEqProofs [g2_tf,slices_ContainsFunc_impl_Point_impl_Point__Selection_pointsFormed_c1,g2_E] <;> (try simp only [map_to_bind,some_elim,g2_O])
def g2_r:Rule:=RlO g2_E (fun a=>slices_ContainsFunc_impl_Point_impl_Point__Selection_pointsFormed_c1 a.1 a.2) g2_O
theorem g2_ok:RuleOk Tryd.prog 122 g2_r:=ok_rlo (S:=g2_S) (tf:=g2_tf) (SysOk.on ⟨g3_ok,trivial⟩ trivial) (trE_ok (ks:=[]) Tryd.func122 (by kernel_rfl)) fun a=>g2_run a.1 a.2
@[simp] theorem g2_app (y0 y1):g2_r [(.vs (rows y0)),(.fn 123 [] [(.vp [(.int .i64 y1)])])]=(slices_ContainsFunc_impl_Point_impl_Point__Selection_pointsFormed_c1 y0 y1).map g2_O :=
  RlO_app (enc:=g2_E) (by intro a b h;simp [g2_E,Prod.ext_iff] at h ⊢;simp [h]) (y0,y1)
/-! (impl.Selection).pointsFormed -/
def g7_tf:TFn:=⟨(sq [bx 1 0,mk 2 (kb false)] [1] (.seq (sq [fa 4 5 1,ld 5 4,le 6 5,ca 7 91 [.t 6,ki 1,ki 24],nt 8 7] [1,8] (.cond (.t 8) (.seq (.ops [mk 2 (kb false)]) (.keep (kp [(2,0)] [] 0) .ret)) .skip)) (.trim [1] (sq [fa 9 5 1,ld 10 9,oo 11 (.iaddr 1 (.t 10) (ki 0)),fa 12 0 11,ld 13 12,le 14 13,oo 3 (.alloc [(.int .i64 0)]),⟨none,none,(.store 1 (.t 3) (.t 14))⟩] [1,3] (.seq (.after (.ops [ld 15 3,bn 16 .leq (.t 15) (ki 3),mo 17 16,⟨(some 18),(some (17,true)),(.faddr 5 (.t 1))⟩,⟨(some 19),(some (17,true)),(.load none (.t 18))⟩,⟨(some 20),(some (17,true)),(.mkfn 123 [] [.t 3])⟩,⟨(some 21),(some (17,true)),(.call 122 [.t 19,.t 20])⟩,⟨(some 22),(some (17,true)),(.un .not (.t 21))⟩,pk 23 (.t 17) (.t 22) (kb false),mo 2 23]) (kp [(2,0)] [] 0)) (.keep (kp [(2,0)] [] 0) .ret)))))),[.t 2]⟩
abbrev g7_S:=Sys.on [(91,g44_r),(122,g2_r)] []
def impl_Selection_pointsFormed (a_s:K0):Option (Bool):=(impl_within ((a_s.2.2.2.2.2.length:Int)) 1 24).bind fun r1=>if ¬(r1=true) then some false else if 0≤(0:Int) then (a_s.2.2.2.2.2[((0:Int)).toNat]?).bind fun x2=>if (x2.length:Int)≤3 then (slices_ContainsFunc_impl_Point_impl_Point__Selection_pointsFormed_c1 a_s.2.2.2.2.2 ((x2.length:Int))).bind fun r3=>some ((!r3)) else some false else none
@[simp] def g7_O:Bool→TV×List Blk:=fun r=>((.bool r),[])
def g7_E (a:K0):List TV:=[(.agg [(.int .i64 a.1),(.vs (rows a.2.1)),(.vs (rows a.2.2.1)),(.vs (rows a.2.2.2.1)),(.vs (rows a.2.2.2.2.1)),(.vs (rows a.2.2.2.2.2))])]
theorem g7_run (a_s:K0) :callFn (X g7_S) g7_tf (g7_E a_s) []=(impl_Selection_pointsFormed a_s).map g7_O:=by
  rw [callFn_eq]
  simp (maxSteps:=2000000) (maxDischargeDepth:=8) -implicitDefEqProofs [g7_tf,impl_Selection_pointsFormed,g7_E] <;> (try simp only [map_to_bind,some_elim,g7_O])
def g7_r:Rule:=RlO g7_E (fun a=>impl_Selection_pointsFormed a) g7_O
theorem g7_ok:RuleOk Tryd.prog 82 g7_r:=ok_rlo (S:=g7_S) (tf:=g7_tf) (SysOk.on ⟨g44_ok,g2_ok,trivial⟩ trivial) (trE_ok (ks:=[]) Tryd.func82 (by kernel_rfl)) fun a=>g7_run a
@[simp] theorem g7_app (y0 y1 y2 y3 y4 y5):g7_r [(.agg [(.int .i64 y0),(.vs (rows y1)),(.vs (rows y2)),(.vs (rows y3)),(.vs (rows y4)),(.vs (rows y5))])]=(impl_Selection_pointsFormed ((y0,y1,y2,y3,y4,y5))).map g7_O :=
  RlO_app (enc:=g7_E) (by intro a b h;simp [g7_E,Prod.ext_iff] at h ⊢;simp [h]) ((y0,y1,y2,y3,y4,y5))
/-! impl.FormedSelection -/
def g12p1_c:TC:=(.cond (.t 13) (.seq (.after (.ops [mo 16 3,mo 17 16,⟨(some 18),(some (17,true)),(.faddr 5 (.t 1))⟩,⟨(some 19),(some (17,true)),(.load none (.t 18))⟩,⟨(some 20),(some (17,true)),(.len false (.t 19))⟩,⟨(some 21),(some (17,true)),(.bin .num .eql (.t 20) (ki 0))⟩,pk 22 (.t 17) (.t 21) (kb false),mo 2 22]) (kp [(2,0)] [] 0)) (.keep (kp [(2,0)] [] 0) .ret)) (sq [bn 24 .eql (.t 12) (ki 3),mo 23 24] [1,3,12,23] (.cond (.t 23) (.seq (.after (.ops [fa 25 5 1,ld 26 25,le 27 26,bn 28 .eql (.t 27) (ki 0),mo 29 28,⟨(some 30),(some (29,true)),(.load (some 6) (.t 1))⟩,⟨(some 31),(some (29,true)),(.call 81 [.t 30])⟩,pk 32 (.t 29) (.t 31) (kb false),mo 2 32]) (kp [(2,0)] [] 0)) (.keep (kp [(2,0)] [] 0) .ret)) (sq [bn 34 .eql (.t 12) (ki 4),mo 33 34] [1,3,33] (.cond (.t 33) (.seq (.after (.ops [mo 35 3,mo 36 35,⟨(some 37),(some (36,true)),(.load (some 6) (.t 1))⟩,⟨(some 38),(some (36,true)),(.call 82 [.t 37])⟩,pk 39 (.t 36) (.t 38) (kb false),mo 2 39]) (kp [(2,0)] [] 0)) (.keep (kp [(2,0)] [] 0) .ret)) (.keep (kp [] [] 0) .skip))))))
def g12_tf:TFn:=⟨(sq [bx 1 0,mk 2 (kb false)] [1] (sq [fa 4 0 1,ld 5 4,fa 6 5 1,ld 7 6,oo 8 (.build [(.int .i64 0),.nils,.nils,.nils,.nils,.nils] [(0,1,(.t 5)),(5,1,(.t 7))]),ln 9 6 1,ca 10 80 [.t 8,.t 9],mo 3 10] [1,3] (.seq (sq [fa 11 0 1,ld 12 11] [1,3,12] (.block 0 (.seq (sq [bn 14 .eql (.t 12) (ki 1),mo 13 14] [1,3,12,13] (.cond (.t 13) (.keep (kp [(1,0),(3,0),(12,0),(13,0)] [(0,0)] 0) .skip) (.after (.ops [bn 15 .eql (.t 12) (ki 2),mo 13 15]) (kp [(1,0),(3,0),(12,0),(13,0)] [(0,0)] 0)))) (.trim [1,3,12,13] g12p1_c)))) (.trim [] (.seq (.ops [mk 2 (kb false)]) (.keep (kp [(2,0)] [] 0) .ret)))))),[.t 2]⟩
abbrev g12_S:=Sys.on [(80,g15_r),(81,g9_r),(82,g7_r)] []
@[reducible,simp] def g12p1_F:((Bool) ⊕ (Unit))→Out:=(Sum.elim (fun t=>(.ret,[(2,(.bool t))],[])) (fun t=>(.nrm,[],[])))
def impl_FormedSelection_p1 (v2:K0) (v3:Bool) (v4:Int) (v5:Bool):Option ((Bool) ⊕ (Unit)):=if v5=true then if v3=true then some ((.inl ((decide ((v2.2.2.2.2.2.length:Int)=0))))) else some ((.inl false)) else if v4=3 then if (v2.2.2.2.2.2.length:Int)=0 then (impl_Selection_slabFormed v2).bind fun r6=>some ((.inl r6)) else some ((.inl false)) else if v4=4 then if v3=true then (impl_Selection_pointsFormed v2).bind fun r7=>some ((.inl r7)) else some ((.inl false)) else some ((.inr ()))
@[simp] theorem g12p1_eq (y0 y1 y2 y3 y4 y5 y6 y7 y8):X g12_S g12p1_c [(1,(.ptr 0 0 0)),(3,(.bool y6)),(12,(.int .i64 y7)),(13,(.bool y8))] [(.live 6 [[(.int .i64 y0),(.vs (rows y1)),(.vs (rows y2)),(.vs (rows y3)),(.vs (rows y4)),(.vs (rows y5))]])]=(impl_FormedSelection_p1 ((y0,y1,y2,y3,y4,y5)) y6 y7 y8).map g12p1_F:=by
  simp (maxSteps:=2000000) (maxDischargeDepth:=8) -implicitDefEqProofs [g12p1_c,impl_FormedSelection_p1] <;> (try simp only [map_to_bind,some_elim,g12p1_F])
def impl_FormedSelection (a_s:K0):Option (Bool):=(impl_SameSelection ((a_s.1,([]:List Int),([]:List Int),([]:List Int),([]:List Int),a_s.2.2.2.2.2)) a_s).bind fun r1=>if a_s.1=1 then (impl_FormedSelection_p1 a_s r1 a_s.1 ((decide (a_s.1=1)))).bind fun r8=>Sum.elim (fun u9=>some u9) (fun u10=>some false) r8 else (impl_FormedSelection_p1 a_s r1 a_s.1 ((decide (a_s.1=2)))).bind fun r11=>Sum.elim (fun u12=>some u12) (fun u13=>some false) r11
@[simp] def g12_O:Bool→TV×List Blk:=fun r=>((.bool r),[])
def g12_E (a:K0):List TV:=[(.agg [(.int .i64 a.1),(.vs (rows a.2.1)),(.vs (rows a.2.2.1)),(.vs (rows a.2.2.2.1)),(.vs (rows a.2.2.2.2.1)),(.vs (rows a.2.2.2.2.2))])]
theorem g12_run (a_s:K0) :callFn (X g12_S) g12_tf (g12_E a_s) []=(impl_FormedSelection a_s).map g12_O:=by
  rw [callFn_eq]
  simp (maxSteps:=2000000) (maxDischargeDepth:=8) -implicitDefEqProofs [g12_tf,impl_FormedSelection,g12_E] <;> (try simp only [map_to_bind,some_elim,g12_O])
def g12_r:Rule:=RlO g12_E (fun a=>impl_FormedSelection a) g12_O
theorem g12_ok:RuleOk Tryd.prog 39 g12_r:=ok_rlo (S:=g12_S) (tf:=g12_tf) (SysOk.on ⟨g15_ok,g9_ok,g7_ok,trivial⟩ trivial) (trE_ok (ks:=[]) Tryd.func39 (by kernel_rfl)) fun a=>g12_run a
@[simp] theorem g12_app (y0 y1 y2 y3 y4 y5):g12_r [(.agg [(.int .i64 y0),(.vs (rows y1)),(.vs (rows y2)),(.vs (rows y3)),(.vs (rows y4)),(.vs (rows y5))])]=(impl_FormedSelection ((y0,y1,y2,y3,y4,y5))).map g12_O :=
  RlO_app (enc:=g12_E) (by intro a b h;simp [g12_E,Prod.ext_iff] at h ⊢;simp [h]) ((y0,y1,y2,y3,y4,y5))
/-! strconv.FormatInt -/
noncomputable def strconv_FormatInt (n:Int):Option Str:=fmtS n
noncomputable def strconv_FormatInt_r:Rule:=fmt_r
@[simp] theorem strconv_FormatInt_app (y0):strconv_FormatInt_r [.int .i64 y0,.int .i64 10]=(strconv_FormatInt y0).map (fun r=>(.str r,[])):=fmtS_app y0
/-! impl.decimal -/
def g40_tf:TFn:=⟨(sq [mk 2 (.c (.str []))] [0] (.seq (.ops [mo 3 0,ca 4 130 [.t 3,ki 10],mo 2 4]) (.keep (kp [(2,0)] [] 0) .ret))),[.t 2]⟩
abbrev g40_S:=Sys.on [(130,strconv_FormatInt_r)] []
def impl_decimal (a_n:Int):Option (Str):=(strconv_FormatInt a_n).bind fun r1=>some r1
@[simp] def g40_O:Str→TV×List Blk:=fun r=>((.str r),[])
def g40_E (a:Int):List TV:=[(.int .i64 a)]
theorem g40_run (a_n:Int) :callFn (X g40_S) g40_tf (g40_E a_n) []=(impl_decimal a_n).map g40_O:=by
  rw [callFn_eq]
  simp (maxSteps:=2000000) (maxDischargeDepth:=8) -implicitDefEqProofs [g40_tf,impl_decimal,g40_E] <;> (try simp only [map_to_bind,some_elim,g40_O])
def g40_r:Rule:=RlO g40_E (fun a=>impl_decimal a) g40_O
theorem g40_ok:RuleOk Tryd.prog 92 g40_r:=ok_rlo (S:=g40_S) (tf:=g40_tf) (SysOk.on ⟨strconv_FormatInt_ok,trivial⟩ trivial) (trE_ok (ks:=[]) Tryd.func92 (by kernel_rfl)) fun a=>g40_run a
@[simp] theorem g40_app (y0):g40_r [(.int .i64 y0)]=(impl_decimal y0).map g40_O :=
  RlO_app (enc:=g40_E) (by intro a b h;simp [g40_E,Prod.ext_iff] at h ⊢;simp [h]) y0
/-! strings.Join -/
noncomputable def strings_Join (l:List Str) (s:Str):Option Str:=joinS l s
noncomputable def strings_Join_r:Rule:=join_r
@[simp] theorem strings_Join_app (y0 y1):strings_Join_r [.vs (rows y0),.str y1]=(strings_Join y0 y1).map (fun r=>(.str r,[])):=joinS_app y0 y1
/-! impl.listText -/
def g33l1_cb:TC:=(sq [bn 9 .lss (.t 8) (.t 7)] [3,6,7,8,9] (.seq (.cond (.t 9) .skip (.keep (kp [(3,1)] [(0,1)] 0) (.exit 0))) (.trim [3,6,7,8] (.seq (.block 1 (sq [ia 10 1 6 8,ld 11 10,mo 5 11] [3,5,6,7,8] (.ops [mo 12 3,mo 13 5,ca 14 92 [.t 13],oo 15 (.bslice [(.str [])] 1 [(0,(.t 14))]),oo 16 (.append 9 1 16 (.t 12) (.t 15)),mo 3 16]))) (.trim [3,6,7,8] (.after (.ops [bn 17 .add (.t 8) (ki 1),mo 8 17]) (kp [(3,1),(6,0),(7,0),(8,0)] [(2,1)] 0)))))))
def g33l1_c:TC:=.loop [3,6,7,8] g33l1_cb
def g33_tf:TFn:=⟨(sq [mk 2 (.c (.str []))] [0] (sq [mk 3 (.c .nils)] [0,3] (.seq (sq [mo 6 0,le 7 6,mk 8 (ki 0)] [3,6,7,8] (.block 0 (.keep (kp [(3,1),(6,0),(7,0),(8,0)] [(1000,1)] 0) g33l1_c))) (.trim [3] (.seq (.ops [mo 18 3,oo 19 (.call 85 [.t 18,(.c (.str [44]))]),mo 2 19]) (.keep (kp [(2,0)] [] 0) .ret)))))),[.t 2]⟩
abbrev g33_S:=Sys.on [(92,g40_r),(85,strings_Join_r)] []
@[reducible,simp] def g33l1_F:(List Str)→Out:=(fun t=>(.ext 0,[(3,(ow 0 t.length))],[(ob 1 t)]))
def impl_listText_l1_b (v2:List Int) (v3:Int) (v1:List Str) (v4:Int):Option ((List Str×Int) ⊕ (List Str)):=if v4 < v3 then if 0≤v4 then (v2[(v4).toNat]?).bind fun x5=>(impl_decimal x5).bind fun r6=>(appL 16 v1 ((lit [r6]:List Str))).bind fun l7=>some (.inl (l7,(IntKind.i64.wrap (v4+1)))) else none else some (.inr v1)
theorem g33l1_b_eq  (v2:List Int) (v3:Int) (v1:List Str) (v4:Int):X g33_S g33l1_cb (keepEnv [3,6,7,8] [(3,(ow 0 v1.length)),(6,(.vs (rows v2))),(7,(.int .i64 v3)),(8,(.int .i64 v4))]) [(ob 1 v1)]=(impl_listText_l1_b v2 v3 v1 v4).map (Sum.elim (fun s=>(TX.nrm,[(3,(ow 0 s.1.length)),(6,(.vs (rows v2))),(7,(.int .i64 v3)),(8,(.int .i64 s.2))],[(ob 1 s.1)])) g33l1_F):=by
  simp (maxSteps:=2000000) (maxDischargeDepth:=8) -implicitDefEqProofs [g33l1_cb,impl_listText_l1_b,bslV_lit (α:=Str) (zs:=[(.str [])])] <;> (try simp only [map_to_bind,some_elim,g33l1_F])
def impl_listText_l1 (v2:List Int) (v3:Int) (s:List Str×Int):Option (List Str):=loopO (fun s=>impl_listText_l1_b v2 v3 s.1 s.2) s
@[simp] theorem g33l1_eq (y0:List Str)(y1 y2 y3){n1:Nat}(h1:n1=y0.length):X g33_S g33l1_c [(3,(ow 0 n1)),(6,(.vs (rows y1))),(7,(.int .i64 y2)),(8,(.int .i64 y3))] [(ob 1 y0)]=(impl_listText_l1 y1 y2 (y0,y3)).map g33l1_F:=by
  subst h1
  exact loop_X _ _ _ _ (by intro r;first | (simp;done) | (rcases r with r | r <;> simp;done) | (rcases r with r | r | r <;> simp;done) | (rcases r with r | r | r | r <;> simp)) (fun s=>g33l1_b_eq  y1 y2 s.1 s.2) (y0,y3)
@[simp] theorem g33l1_eq_0 (y0 y1 y2):X g33_S g33l1_c [(3,.es),(6,(.vs (rows y0))),(7,(.int .i64 y1)),(8,(.int .i64 y2))] [.dead]=(impl_listText_l1 y0 y1 (([]:List Str),y2)).map g33l1_F :=
  g33l1_eq  ([]:List Str) y0 y1 y2 rfl
def impl_listText (a_list:List Int):Option (Str):=(impl_listText_l1 a_list ((a_list.length:Int)) ((([]:List Str),0))).bind fun r8=>(strings_Join r8 (([44]:Str))).bind fun r9=>some r9
@[simp] def g33_O:Str→TV×List Blk:=fun r=>((.str r),[])
def g33_E (a:List Int):List TV:=[(.vs (rows a))]
theorem g33_run (a_list:List Int) :callFn (X g33_S) g33_tf (g33_E a_list) []=(impl_listText a_list).map g33_O:=by
  rw [callFn_eq]
  simp (maxSteps:=2000000) (maxDischargeDepth:=8) -implicitDefEqProofs [g33_tf,impl_listText,g33_E,bslV_lit (α:=Str) (zs:=[(.str [])])] <;> (try simp only [map_to_bind,some_elim,g33_O])
def g33_r:Rule:=RlO g33_E (fun a=>impl_listText a) g33_O
theorem g33_ok:RuleOk Tryd.prog 84 g33_r:=ok_rlo (S:=g33_S) (tf:=g33_tf) (SysOk.on ⟨g40_ok,strings_Join_ok,trivial⟩ trivial) (trE_ok (ks:=[[3,6,7,8]]) Tryd.func84 (by kernel_rfl)) fun a=>g33_run a
@[simp] theorem g33_app (y0):g33_r [(.vs (rows y0))]=(impl_listText y0).map g33_O :=
  RlO_app (enc:=g33_E) (by intro a b h;simp [g33_E,Prod.ext_iff] at h ⊢;simp [h]) y0
/-! (impl.Selection).text -/
def g13l1_cb:TC:=(sq [bn 20 .lss (.t 19) (.t 18)] [3,17,18,19,20] (.seq (.cond (.t 20) .skip (.keep (kp [(3,1)] [(0,1)] 0) (.exit 1))) (.trim [3,17,18,19] (.seq (.block 2 (sq [ia 21 1 17 19,ld 22 21,mo 5 22] [3,5,17,18,19] (.ops [mo 23 3,mo 24 5,ca 25 84 [.t 24],oo 26 (.bslice [(.str [])] 1 [(0,(.t 25))]),oo 27 (.append 9 1 16 (.t 23) (.t 26)),mo 3 27]))) (.trim [3,17,18,19] (.after (.ops [bn 28 .add (.t 19) (ki 1),mo 19 28]) (kp [(3,1),(17,1),(18,0),(19,0)] [(3,1),(1,1)] 0)))))))
def g13l1_c:TC:=.loop [3,17,18,19] g13l1_cb
def g13l2_cb:TC:=(sq [bn 37 .lss (.t 36) (.t 35)] [3,34,35,36,37] (.seq (.cond (.t 37) .skip (.keep (kp [(3,1)] [(0,1)] 0) (.exit 3))) (.trim [3,34,35,36] (.seq (.block 4 (sq [ia 38 1 34 36,ln 39 1 38,oo 7 (.alloc [.nils]),⟨none,none,(.store 1 (.t 7) (.t 39))⟩] [3,7,34,35,36] (.ops [mo 40 3,fa 41 0 7,ld 42 41,ca 43 84 [.t 42],oo 44 (.bslice [(.str [])] 1 [(0,(.t 43))]),oo 45 (.append 9 1 16 (.t 40) (.t 44)),mo 3 45]))) (.trim [3,34,35,36] (.after (.ops [bn 46 .add (.t 36) (ki 1),mo 36 46]) (kp [(3,1),(34,0),(35,0),(36,0)] [(3,1)] 0)))))))
def g13l2_c:TC:=.loop [3,34,35,36] g13l2_cb
def g13_tf:TFn:=⟨(sq [bx 1 0,mk 2 (.c (.str []))] [1] (sq [mk 3 (.c .nils)] [1,3] (.seq (sq [fa 8 0 1,ld 9 8] [1,3,9] (.block 0 (sq [bn 11 .eql (.t 9) (ki 1),mo 10 11] [1,3,9,10] (.cond (.t 10) (.seq (.ops [mk 2 (.c (.str [97,108,108]))]) (.keep (kp [(2,0)] [] 0) .ret)) (sq [bn 13 .eql (.t 9) (ki 2),mo 12 13] [1,3,9,12] (.cond (.t 12) (.seq (.ops [mk 2 (.c (.str [110,111,110,101]))]) (.keep (kp [(2,0)] [] 0) .ret)) (sq [bn 15 .eql (.t 9) (ki 3),mo 14 15] [1,3,14] (.cond (.t 14) (.seq (sq [ln 16 6 1,ca 17 83 [.t 16],le 18 17,mk 19 (ki 0)] [3,17,18,19] (.block 1 (.keep (kp [(3,1),(17,1),(18,0),(19,0)] [(1000,1),(1,1)] 0) g13l1_c))) (.trim [3] (.seq (.ops [mo 29 3,oo 30 (.call 85 [.t 29,(.c (.str [59]))]),oo 31 (.bin .str .add (.c (.str [115,108,97,98,40])) (.t 30)),oo 32 (.bin .str .add (.t 31) (.c (.str [41]))),mo 2 32]) (.keep (kp [(2,0)] [] 0) .ret)))) .skip)))))))) (.trim [1,3] (.seq (sq [fa 33 5 1,ld 34 33,le 35 34,mk 36 (ki 0)] [3,34,35,36] (.block 3 (.keep (kp [(3,1),(34,0),(35,0),(36,0)] [(1000,1)] 0) g13l2_c))) (.trim [3] (.seq (.ops [mo 47 3,oo 48 (.call 85 [.t 47,(.c (.str [59]))]),oo 49 (.bin .str .add (.c (.str [112,111,105,110,116,115,40])) (.t 48)),oo 50 (.bin .str .add (.t 49) (.c (.str [41]))),mo 2 50]) (.keep (kp [(2,0)] [] 0) .ret)))))))),[.t 2]⟩
abbrev g13_S:=Sys.on [(83,g11_r),(84,g33_r),(85,strings_Join_r)] []
@[reducible,simp] def g13l1_F:(List Str)→Out:=(fun t=>(.ext 1,[(3,(ow 0 t.length))],[(ob 1 t)]))
def impl_Selection_text_l1_b (v3:List (List Int)) (v4:Int) (v2:List Str) (v5:Int):Option ((List Str×Int) ⊕ (List Str)):=if v5 < v4 then if 0≤v5∧v5 < ((v3.length:Nat):Int) then (v3[(v5).toNat]?).bind fun x6=>(impl_listText x6).bind fun r7=>(appL 16 v2 ((lit [r7]:List Str))).bind fun l8=>some (.inl (l8,(IntKind.i64.wrap (v5+1)))) else none else some (.inr v2)
theorem g13l1_b_eq  (v3:List (List Int)) (v4:Int) (v2:List Str) (v5:Int):X g13_S g13l1_cb (keepEnv [3,17,18,19] [(3,(ow 0 v2.length)),(17,(ow 1 v3.length)),(18,(.int .i64 v4)),(19,(.int .i64 v5))]) [(ob 1 v2),(ob 1 v3)]=(impl_Selection_text_l1_b v3 v4 v2 v5).map (Sum.elim (fun s=>(TX.nrm,[(3,(ow 0 s.1.length)),(17,(ow 1 v3.length)),(18,(.int .i64 v4)),(19,(.int .i64 s.2))],[(ob 1 s.1),(ob 1 v3)])) g13l1_F):=by
  simp (maxSteps:=2000000) (maxDischargeDepth:=8) -implicitDefEqProofs [g13l1_cb,impl_Selection_text_l1_b,bslV_lit (α:=Str) (zs:=[(.str [])])] <;> (try simp only [map_to_bind,some_elim,g13l1_F])
def impl_Selection_text_l1 (v3:List (List Int)) (v4:Int) (s:List Str×Int):Option (List Str):=loopO (fun s=>impl_Selection_text_l1_b v3 v4 s.1 s.2) s
@[simp] theorem g13l1_eq (y0:List Str)(y1:List (List Int))(y2 y3){n1:Nat}(h1:n1=y0.length){n2:Nat}(h2:n2=y1.length):X g13_S g13l1_c [(3,(ow 0 n1)),(17,(ow 1 n2)),(18,(.int .i64 y2)),(19,(.int .i64 y3))] [(ob 1 y0),(ob 1 y1)]=(impl_Selection_text_l1 y1 y2 (y0,y3)).map g13l1_F:=by
  subst h1 h2
  exact loop_X _ _ _ _ (by intro r;first | (simp;done) | (rcases r with r | r <;> simp;done) | (rcases r with r | r | r <;> simp;done) | (rcases r with r | r | r | r <;> simp)) (fun s=>g13l1_b_eq  y1 y2 s.1 s.2) (y0,y3)
@[simp] theorem g13l1_eq_0 (y0:List (List Int))(y1 y2){n1:Nat}(h1:n1=y0.length):X g13_S g13l1_c [(3,.es),(17,(ow 1 n1)),(18,(.int .i64 y1)),(19,(.int .i64 y2))] [.dead,(ob 1 y0)]=(impl_Selection_text_l1 y0 y1 (([]:List Str),y2)).map g13l1_F :=
  g13l1_eq  ([]:List Str) y0 y1 y2 rfl h1
@[reducible,simp] def g13l2_F:(List Str)→Out:=(fun t=>(.ext 3,[(3,(ow 0 t.length))],[(ob 1 t)]))
def impl_Selection_text_l2_b (v12:List (List Int)) (v13:Int) (v11:List Str) (v14:Int):Option ((List Str×Int) ⊕ (List Str)):=if v14 < v13 then if 0≤v14 then (v12[(v14).toNat]?).bind fun x15=>(impl_listText x15).bind fun r16=>(appL 16 v11 ((lit [r16]:List Str))).bind fun l17=>some (.inl (l17,(IntKind.i64.wrap (v14+1)))) else none else some (.inr v11)
theorem g13l2_b_eq  (v12:List (List Int)) (v13:Int) (v11:List Str) (v14:Int):X g13_S g13l2_cb (keepEnv [3,34,35,36] [(3,(ow 0 v11.length)),(34,(.vs (rows v12))),(35,(.int .i64 v13)),(36,(.int .i64 v14))]) [(ob 1 v11)]=(impl_Selection_text_l2_b v12 v13 v11 v14).map (Sum.elim (fun s=>(TX.nrm,[(3,(ow 0 s.1.length)),(34,(.vs (rows v12))),(35,(.int .i64 v13)),(36,(.int .i64 s.2))],[(ob 1 s.1)])) g13l2_F):=by
  simp (maxSteps:=2000000) (maxDischargeDepth:=8) -implicitDefEqProofs [g13l2_cb,impl_Selection_text_l2_b,bslV_lit (α:=Str) (zs:=[(.str [])])] <;> (try simp only [map_to_bind,some_elim,g13l2_F])
def impl_Selection_text_l2 (v12:List (List Int)) (v13:Int) (s:List Str×Int):Option (List Str):=loopO (fun s=>impl_Selection_text_l2_b v12 v13 s.1 s.2) s
@[simp] theorem g13l2_eq (y0:List Str)(y1 y2 y3){n1:Nat}(h1:n1=y0.length):X g13_S g13l2_c [(3,(ow 0 n1)),(34,(.vs (rows y1))),(35,(.int .i64 y2)),(36,(.int .i64 y3))] [(ob 1 y0)]=(impl_Selection_text_l2 y1 y2 (y0,y3)).map g13l2_F:=by
  subst h1
  exact loop_X _ _ _ _ (by intro r;first | (simp;done) | (rcases r with r | r <;> simp;done) | (rcases r with r | r | r <;> simp;done) | (rcases r with r | r | r | r <;> simp)) (fun s=>g13l2_b_eq  y1 y2 s.1 s.2) (y0,y3)
@[simp] theorem g13l2_eq_0 (y0 y1 y2):X g13_S g13l2_c [(3,.es),(34,(.vs (rows y0))),(35,(.int .i64 y1)),(36,(.int .i64 y2))] [.dead]=(impl_Selection_text_l2 y0 y1 (([]:List Str),y2)).map g13l2_F :=
  g13l2_eq  ([]:List Str) y0 y1 y2 rfl
def impl_Selection_text (a_s:K0):Option (Str):=if a_s.1=1 then some (([97,108,108]:Str)) else if a_s.1=2 then some (([110,111,110,101]:Str)) else if a_s.1=3 then (impl_Selection_lists a_s).bind fun r1=>(impl_Selection_text_l1 r1 (((r1.length:Nat):Int)) ((([]:List Str),0))).bind fun r9=>(strings_Join r9 (([59]:Str))).bind fun r10=>if (([115,108,97,98,40]:Str)).length+r10.length≤9223372036854775807 then if ((([115,108,97,98,40]:Str)++r10)).length+(([41]:Str)).length≤9223372036854775807 then some (((([115,108,97,98,40]:Str)++r10)++([41]:Str))) else none else none else (impl_Selection_text_l2 a_s.2.2.2.2.2 ((a_s.2.2.2.2.2.length:Int)) ((([]:List Str),0))).bind fun r18=>(strings_Join r18 (([59]:Str))).bind fun r19=>if (([112,111,105,110,116,115,40]:Str)).length+r19.length≤9223372036854775807 then if ((([112,111,105,110,116,115,40]:Str)++r19)).length+(([41]:Str)).length≤9223372036854775807 then some (((([112,111,105,110,116,115,40]:Str)++r19)++([41]:Str))) else none else none
@[simp] def g13_O:Str→TV×List Blk:=fun r=>((.str r),[])
def g13_E (a:K0):List TV:=[(.agg [(.int .i64 a.1),(.vs (rows a.2.1)),(.vs (rows a.2.2.1)),(.vs (rows a.2.2.2.1)),(.vs (rows a.2.2.2.2.1)),(.vs (rows a.2.2.2.2.2))])]
theorem g13_run (a_s:K0) :callFn (X g13_S) g13_tf (g13_E a_s) []=(impl_Selection_text a_s).map g13_O:=by
  rw [callFn_eq]
  simp (maxSteps:=2000000) (maxDischargeDepth:=8) -implicitDefEqProofs [g13_tf,impl_Selection_text,g13_E,bslV_lit (α:=Str) (zs:=[(.str [])])] <;> (try simp only [map_to_bind,some_elim,g13_O])
def g13_r:Rule:=RlO g13_E (fun a=>impl_Selection_text a) g13_O
theorem g13_ok:RuleOk Tryd.prog 40 g13_r:=ok_rlo (S:=g13_S) (tf:=g13_tf) (SysOk.on ⟨g11_ok,g33_ok,strings_Join_ok,trivial⟩ trivial) (trE_ok (ks:=[[3,17,18,19],[3,34,35,36]]) Tryd.func40 (by kernel_rfl)) fun a=>g13_run a
@[simp] theorem g13_app (y0 y1 y2 y3 y4 y5):g13_r [(.agg [(.int .i64 y0),(.vs (rows y1)),(.vs (rows y2)),(.vs (rows y3)),(.vs (rows y4)),(.vs (rows y5))])]=(impl_Selection_text ((y0,y1,y2,y3,y4,y5))).map g13_O :=
  RlO_app (enc:=g13_E) (by intro a b h;simp [g13_E,Prod.ext_iff] at h ⊢;simp [h]) ((y0,y1,y2,y3,y4,y5))
/-! impl.SelectionText -/
def g17_tf:TFn:=⟨(sq [bx 1 0,mk 2 (.c (.str []))] [1] (.seq (sq [ln 3 6 1,ca 4 39 [.t 3],nt 5 4] [1,5] (.cond (.t 5) (.seq (.ops [mk 2 (.c (.str []))]) (.keep (kp [(2,0)] [] 0) .ret)) .skip)) (.trim [1] (.seq (.ops [ln 6 6 1,ca 7 40 [.t 6],mo 2 7]) (.keep (kp [(2,0)] [] 0) .ret))))),[.t 2]⟩
abbrev g17_S:=Sys.on [(39,g12_r),(40,g13_r)] []
def impl_SelectionText (a_s:K0):Option (Str):=(impl_FormedSelection a_s).bind fun r1=>if ¬(r1=true) then some (([]:Str)) else (impl_Selection_text a_s).bind fun r2=>some r2
@[simp] def g17_O:Str→TV×List Blk:=fun r=>((.str r),[])
def g17_E (a:K0):List TV:=[(.agg [(.int .i64 a.1),(.vs (rows a.2.1)),(.vs (rows a.2.2.1)),(.vs (rows a.2.2.2.1)),(.vs (rows a.2.2.2.2.1)),(.vs (rows a.2.2.2.2.2))])]
theorem g17_run (a_s:K0) :callFn (X g17_S) g17_tf (g17_E a_s) []=(impl_SelectionText a_s).map g17_O:=by
  rw [callFn_eq]
  simp (maxSteps:=2000000) (maxDischargeDepth:=8) -implicitDefEqProofs [g17_tf,impl_SelectionText,g17_E] <;> (try simp only [map_to_bind,some_elim,g17_O])
def g17_r:Rule:=RlO g17_E (fun a=>impl_SelectionText a) g17_O
theorem g17_ok:RuleOk Tryd.prog 11 g17_r:=ok_rlo (S:=g17_S) (tf:=g17_tf) (SysOk.on ⟨g12_ok,g13_ok,trivial⟩ trivial) (trE_ok (ks:=[]) Tryd.func11 (by kernel_rfl)) fun a=>g17_run a
@[simp] theorem g17_app (y0 y1 y2 y3 y4 y5):g17_r [(.agg [(.int .i64 y0),(.vs (rows y1)),(.vs (rows y2)),(.vs (rows y3)),(.vs (rows y4)),(.vs (rows y5))])]=(impl_SelectionText ((y0,y1,y2,y3,y4,y5))).map g17_O :=
  RlO_app (enc:=g17_E) (by intro a b h;simp [g17_E,Prod.ext_iff] at h ⊢;simp [h]) ((y0,y1,y2,y3,y4,y5))
/-! laws.eqInt64S -/
def g34l1_cb:TC:=(.seq (sq [mo 11 5,mo 12 0,le 13 12,bn 14 .lss (.t 11) (.t 13)] [0,1,5,14] (.cond (.t 14) .skip (.keep (kp [] [] 0) (.exit 0)))) (.trim [0,1,5] (.seq (.block 1 (.seq (.draw [([],mo 17 0),([],mo 18 5),([0,1],ia 19 1 17 18),([0,1,2],ld 20 19),([],mo 21 1),([],mo 22 5),([4,5],ia 23 1 21 22),([4,5,6],ld 24 23)] [bn 25 .neq (.t 20) (.t 24)]) (.trim [0,1,5,25] (.cond (.t 25) (.seq (.ops [mk 4 (kb false)]) (.keep (kp [(4,0)] [] 0) .ret)) .skip)))) (.trim [0,1,5] (.after (.ops [mo 15 5,bn 16 .add (.t 15) (ki 1),mo 5 16]) (kp [(0,0),(1,0),(5,0)] [] 0))))))
def g34l1_c:TC:=.loop [0,1,5] g34l1_cb
def g34_tf:TFn:=⟨(sq [mk 4 (kb false)] [0,1] (.seq (sq [mo 6 0,le 7 6,mo 8 1,le 9 8,bn 10 .neq (.t 7) (.t 9)] [0,1,10] (.cond (.t 10) (.seq (.ops [mk 4 (kb false)]) (.keep (kp [(4,0)] [] 0) .ret)) .skip)) (.trim [0,1] (.seq (sq [mk 5 (ki 0)] [0,1,5] (.block 0 (.keep (kp [(0,0),(1,0),(5,0)] [] 0) g34l1_c))) (.trim [] (.seq (.ops [mk 4 (kb true)]) (.keep (kp [(4,0)] [] 0) .ret))))))),[.t 4]⟩
abbrev g34_S:=Sys.on [] []
@[reducible,simp] def g34l1_F:((Unit) ⊕ (Bool))→Out:=(Sum.elim (fun t=>(.ext 0,[],[])) (fun t=>(.ret,[(4,(.bool t))],[])))
def laws_eqInt64S_l1_b (v1:List Int) (v2:List Int) (v3:Int):Option ((Int) ⊕ ((Unit) ⊕ (Bool))):=if v3 < (v1.length:Int) then if 0≤v3 then (v1[(v3).toNat]?).bind fun x4=>if 0≤v3 then (v2[(v3).toNat]?).bind fun x5=>if ¬(x4=x5) then some (.inr (.inr false)) else some (.inl ((IntKind.i64.wrap (v3+1)))) else none else none else some (.inr (.inl ()))
theorem g34l1_b_eq  (v1:List Int) (v2:List Int) (v3:Int):X g34_S g34l1_cb (keepEnv [0,1,5] [(0,(.vs (rows v1))),(1,(.vs (rows v2))),(5,(.int .i64 v3))]) []=(laws_eqInt64S_l1_b v1 v2 v3).map (Sum.elim (fun s=>(TX.nrm,[(0,(.vs (rows v1))),(1,(.vs (rows v2))),(5,(.int .i64 s))],[])) g34l1_F):=by
  simp (maxSteps:=2000000) (maxDischargeDepth:=8) -implicitDefEqProofs [g34l1_cb,laws_eqInt64S_l1_b] <;> (try simp only [map_to_bind,some_elim,g34l1_F])
def laws_eqInt64S_l1 (v1:List Int) (v2:List Int) (s:Int):Option ((Unit) ⊕ (Bool)):=loopO (fun s=>laws_eqInt64S_l1_b v1 v2 s) s
@[simp] theorem g34l1_eq (y0 y1 y2):X g34_S g34l1_c [(0,(.vs (rows y0))),(1,(.vs (rows y1))),(5,(.int .i64 y2))] []=(laws_eqInt64S_l1 y0 y1 y2).map g34l1_F:=by
  exact loop_X _ _ _ _ (by intro r;first | (simp;done) | (rcases r with r | r <;> simp;done) | (rcases r with r | r | r <;> simp;done) | (rcases r with r | r | r | r <;> simp)) (fun s=>g34l1_b_eq  y0 y1 s) y2
def laws_eqInt64S (a_a:List Int) (a_b:List Int):Option (Bool):=if ¬((a_a.length:Int)=(a_b.length:Int)) then some false else (laws_eqInt64S_l1 a_a a_b 0).bind fun r6=>Sum.elim (fun u7=>some true) (fun u8=>some u8) r6
@[simp] def g34_O:Bool→TV×List Blk:=fun r=>((.bool r),[])
def g34_E (a:List Int×List Int):List TV:=[(.vs (rows a.1)),(.vs (rows a.2))]
theorem g34_run (a_a:List Int) (a_b:List Int) :callFn (X g34_S) g34_tf (g34_E (a_a,a_b)) []=(laws_eqInt64S a_a a_b).map g34_O:=by
  rw [callFn_eq]
  simp (maxSteps:=2000000) (maxDischargeDepth:=8) -implicitDefEqProofs [g34_tf,laws_eqInt64S,g34_E] <;> (try simp only [map_to_bind,some_elim,g34_O])
def g34_r:Rule:=RlO g34_E (fun a=>laws_eqInt64S a.1 a.2) g34_O
theorem g34_ok:RuleOk Tryd.prog 41 g34_r:=ok_rlo (S:=g34_S) (tf:=g34_tf) (SysOk.on trivial trivial) (trE_ok (ks:=[[0,1,5],[8]]) Tryd.func41 (by kernel_rfl)) fun a=>g34_run a.1 a.2
@[simp] theorem g34_app (y0 y1):g34_r [(.vs (rows y0)),(.vs (rows y1))]=(laws_eqInt64S y0 y1).map g34_O :=
  RlO_app (enc:=g34_E) (by intro a b h;simp [g34_E,Prod.ext_iff] at h ⊢;simp [h]) (y0,y1)
/-! laws.eqPoint -/
def g42_tf:TFn:=⟨(sq [bx 2 0,bx 3 1,mk 4 (kb false)] [2,3] (.seq (sq [fa 5 0 2,ld 6 5,fa 7 0 3,ld 8 7,ca 9 41 [.t 6,.t 8],nt 10 9] [10] (.cond (.t 10) (.seq (.ops [mk 4 (kb false)]) (.keep (kp [(4,0)] [] 0) .ret)) .skip)) (.trim [] (.seq (.ops [mk 4 (kb true)]) (.keep (kp [(4,0)] [] 0) .ret))))),[.t 4]⟩
abbrev g42_S:=Sys.on [(41,g34_r)] []
def laws_eqPoint (a_a:List Int) (a_b:List Int):Option (Bool):=(laws_eqInt64S a_a a_b).bind fun r1=>if ¬(r1=true) then some false else some true
@[simp] def g42_O:Bool→TV×List Blk:=fun r=>((.bool r),[])
def g42_E (a:List Int×List Int):List TV:=[(.agg [(.vs (rows a.1))]),(.agg [(.vs (rows a.2))])]
theorem g42_run (a_a:List Int) (a_b:List Int) :callFn (X g42_S) g42_tf (g42_E (a_a,a_b)) []=(laws_eqPoint a_a a_b).map g42_O:=by
  rw [callFn_eq]
  simp (maxSteps:=2000000) (maxDischargeDepth:=8) -implicitDefEqProofs [g42_tf,laws_eqPoint,g42_E] <;> (try simp only [map_to_bind,some_elim,g42_O])
def g42_r:Rule:=RlO g42_E (fun a=>laws_eqPoint a.1 a.2) g42_O
theorem g42_ok:RuleOk Tryd.prog 86 g42_r:=ok_rlo (S:=g42_S) (tf:=g42_tf) (SysOk.on ⟨g34_ok,trivial⟩ trivial) (trE_ok (ks:=[]) Tryd.func86 (by kernel_rfl)) fun a=>g42_run a.1 a.2
@[simp] theorem g42_app (y0 y1):g42_r [(.agg [(.vs (rows y0))]),(.agg [(.vs (rows y1))])]=(laws_eqPoint y0 y1).map g42_O :=
  RlO_app (enc:=g42_E) (by intro a b h;simp [g42_E,Prod.ext_iff] at h ⊢;simp [h]) (y0,y1)
/-! laws.eqPointS -/
def g35l1_cb:TC:=(.seq (sq [mo 11 5,mo 12 0,le 13 12,bn 14 .lss (.t 11) (.t 13)] [0,1,5,14] (.cond (.t 14) .skip (.keep (kp [] [] 0) (.exit 0)))) (.trim [0,1,5] (.seq (.block 1 (.seq (.draw [([],mo 17 0),([],mo 18 5),([0,1],ia 19 1 17 18),([0,1,2],ln 20 1 19),([],mo 21 1),([],mo 22 5),([4,5],ia 23 1 21 22),([4,5,6],ln 24 1 23)] [ca 25 86 [.t 20,.t 24],nt 26 25]) (.trim [0,1,5,26] (.cond (.t 26) (.seq (.ops [mk 4 (kb false)]) (.keep (kp [(4,0)] [] 0) .ret)) .skip)))) (.trim [0,1,5] (.after (.ops [mo 15 5,bn 16 .add (.t 15) (ki 1),mo 5 16]) (kp [(0,0),(1,0),(5,0)] [] 0))))))
def g35l1_c:TC:=.loop [0,1,5] g35l1_cb
def g35_tf:TFn:=⟨(sq [mk 4 (kb false)] [0,1] (.seq (sq [mo 6 0,le 7 6,mo 8 1,le 9 8,bn 10 .neq (.t 7) (.t 9)] [0,1,10] (.cond (.t 10) (.seq (.ops [mk 4 (kb false)]) (.keep (kp [(4,0)] [] 0) .ret)) .skip)) (.trim [0,1] (.seq (sq [mk 5 (ki 0)] [0,1,5] (.block 0 (.keep (kp [(0,0),(1,0),(5,0)] [] 0) g35l1_c))) (.trim [] (.seq (.ops [mk 4 (kb true)]) (.keep (kp [(4,0)] [] 0) .ret))))))),[.t 4]⟩
abbrev g35_S:=Sys.on [(86,g42_r)] []
@[reducible,simp] def g35l1_F:((Unit) ⊕ (Bool))→Out:=(Sum.elim (fun t=>(.ext 0,[],[])) (fun t=>(.ret,[(4,(.bool t))],[])))
def laws_eqPointS_l1_b (v1:List (List Int)) (v2:List (List Int)) (v3:Int):Option ((Int) ⊕ ((Unit) ⊕ (Bool))):=if v3 < (v1.length:Int) then if 0≤v3 then (v1[(v3).toNat]?).bind fun x4=>if 0≤v3 then (v2[(v3).toNat]?).bind fun x5=>(laws_eqPoint x4 x5).bind fun r6=>if ¬(r6=true) then some (.inr (.inr false)) else some (.inl ((IntKind.i64.wrap (v3+1)))) else none else none else some (.inr (.inl ()))
theorem g35l1_b_eq  (v1:List (List Int)) (v2:List (List Int)) (v3:Int):X g35_S g35l1_cb (keepEnv [0,1,5] [(0,(.vs (rows v1))),(1,(.vs (rows v2))),(5,(.int .i64 v3))]) []=(laws_eqPointS_l1_b v1 v2 v3).map (Sum.elim (fun s=>(TX.nrm,[(0,(.vs (rows v1))),(1,(.vs (rows v2))),(5,(.int .i64 s))],[])) g35l1_F):=by
  simp (maxSteps:=2000000) (maxDischargeDepth:=8) -implicitDefEqProofs [g35l1_cb,laws_eqPointS_l1_b] <;> (try simp only [map_to_bind,some_elim,g35l1_F])
def laws_eqPointS_l1 (v1:List (List Int)) (v2:List (List Int)) (s:Int):Option ((Unit) ⊕ (Bool)):=loopO (fun s=>laws_eqPointS_l1_b v1 v2 s) s
@[simp] theorem g35l1_eq (y0 y1 y2):X g35_S g35l1_c [(0,(.vs (rows y0))),(1,(.vs (rows y1))),(5,(.int .i64 y2))] []=(laws_eqPointS_l1 y0 y1 y2).map g35l1_F:=by
  exact loop_X _ _ _ _ (by intro r;first | (simp;done) | (rcases r with r | r <;> simp;done) | (rcases r with r | r | r <;> simp;done) | (rcases r with r | r | r | r <;> simp)) (fun s=>g35l1_b_eq  y0 y1 s) y2
def laws_eqPointS (a_a:List (List Int)) (a_b:List (List Int)):Option (Bool):=if ¬((a_a.length:Int)=(a_b.length:Int)) then some false else (laws_eqPointS_l1 a_a a_b 0).bind fun r7=>Sum.elim (fun u8=>some true) (fun u9=>some u9) r7
@[simp] def g35_O:Bool→TV×List Blk:=fun r=>((.bool r),[])
def g35_E (a:List (List Int)×List (List Int)):List TV:=[(.vs (rows a.1)),(.vs (rows a.2))]
theorem g35_run (a_a:List (List Int)) (a_b:List (List Int)) :callFn (X g35_S) g35_tf (g35_E (a_a,a_b)) []=(laws_eqPointS a_a a_b).map g35_O:=by
  rw [callFn_eq]
  simp (maxSteps:=2000000) (maxDischargeDepth:=8) -implicitDefEqProofs [g35_tf,laws_eqPointS,g35_E] <;> (try simp only [map_to_bind,some_elim,g35_O])
def g35_r:Rule:=RlO g35_E (fun a=>laws_eqPointS a.1 a.2) g35_O
theorem g35_ok:RuleOk Tryd.prog 42 g35_r:=ok_rlo (S:=g35_S) (tf:=g35_tf) (SysOk.on ⟨g42_ok,trivial⟩ trivial) (trE_ok (ks:=[[0,1,5],[8]]) Tryd.func42 (by kernel_rfl)) fun a=>g35_run a.1 a.2
@[simp] theorem g35_app (y0 y1):g35_r [(.vs (rows y0)),(.vs (rows y1))]=(laws_eqPointS y0 y1).map g35_O :=
  RlO_app (enc:=g35_E) (by intro a b h;simp [g35_E,Prod.ext_iff] at h ⊢;simp [h]) (y0,y1)
/-! laws.eqSelection -/
def g22_tf:TFn:=⟨(sq [bx 2 0,bx 3 1,mk 4 (kb false)] [2,3] (.seq (sq [fa 5 0 2,ld 6 5,fa 7 0 3,ld 8 7,bn 9 .neq (.t 6) (.t 8)] [2,3,9] (.cond (.t 9) (.seq (.ops [mk 4 (kb false)]) (.keep (kp [(4,0)] [] 0) .ret)) .skip)) (.trim [2,3] (.seq (sq [fa 10 1 2,ld 11 10,fa 12 1 3,ld 13 12,ca 14 41 [.t 11,.t 13],nt 15 14] [2,3,15] (.cond (.t 15) (.seq (.ops [mk 4 (kb false)]) (.keep (kp [(4,0)] [] 0) .ret)) .skip)) (.trim [2,3] (.seq (sq [fa 16 2 2,ld 17 16,fa 18 2 3,ld 19 18,ca 20 41 [.t 17,.t 19],nt 21 20] [2,3,21] (.cond (.t 21) (.seq (.ops [mk 4 (kb false)]) (.keep (kp [(4,0)] [] 0) .ret)) .skip)) (.trim [2,3] (.seq (sq [fa 22 3 2,ld 23 22,fa 24 3 3,ld 25 24,ca 26 41 [.t 23,.t 25],nt 27 26] [2,3,27] (.cond (.t 27) (.seq (.ops [mk 4 (kb false)]) (.keep (kp [(4,0)] [] 0) .ret)) .skip)) (.trim [2,3] (.seq (sq [fa 28 4 2,ld 29 28,fa 30 4 3,ld 31 30,ca 32 41 [.t 29,.t 31],nt 33 32] [2,3,33] (.cond (.t 33) (.seq (.ops [mk 4 (kb false)]) (.keep (kp [(4,0)] [] 0) .ret)) .skip)) (.trim [2,3] (.seq (sq [fa 34 5 2,ld 35 34,fa 36 5 3,ld 37 36,ca 38 42 [.t 35,.t 37],nt 39 38] [39] (.cond (.t 39) (.seq (.ops [mk 4 (kb false)]) (.keep (kp [(4,0)] [] 0) .ret)) .skip)) (.trim [] (.seq (.ops [mk 4 (kb true)]) (.keep (kp [(4,0)] [] 0) .ret))))))))))))))),[.t 4]⟩
abbrev g22_S:=Sys.on [(41,g34_r),(42,g35_r)] []
def laws_eqSelection (a_a:K0) (a_b:K0):Option (Bool):=if ¬(a_a.1=a_b.1) then some false else (laws_eqInt64S a_a.2.1 a_b.2.1).bind fun r1=>if ¬(r1=true) then some false else (laws_eqInt64S a_a.2.2.1 a_b.2.2.1).bind fun r2=>if ¬(r2=true) then some false else (laws_eqInt64S a_a.2.2.2.1 a_b.2.2.2.1).bind fun r3=>if ¬(r3=true) then some false else (laws_eqInt64S a_a.2.2.2.2.1 a_b.2.2.2.2.1).bind fun r4=>if ¬(r4=true) then some false else (laws_eqPointS a_a.2.2.2.2.2 a_b.2.2.2.2.2).bind fun r5=>if ¬(r5=true) then some false else some true
@[simp] def g22_O:Bool→TV×List Blk:=fun r=>((.bool r),[])
def g22_E (a:K0×K0):List TV:=[(.agg [(.int .i64 a.1.1),(.vs (rows a.1.2.1)),(.vs (rows a.1.2.2.1)),(.vs (rows a.1.2.2.2.1)),(.vs (rows a.1.2.2.2.2.1)),(.vs (rows a.1.2.2.2.2.2))]),(.agg [(.int .i64 a.2.1),(.vs (rows a.2.2.1)),(.vs (rows a.2.2.2.1)),(.vs (rows a.2.2.2.2.1)),(.vs (rows a.2.2.2.2.2.1)),(.vs (rows a.2.2.2.2.2.2))])]
theorem g22_run (a_a:K0) (a_b:K0) :callFn (X g22_S) g22_tf (g22_E (a_a,a_b)) []=(laws_eqSelection a_a a_b).map g22_O:=by
  rw [callFn_eq]
  simp (maxSteps:=2000000) (maxDischargeDepth:=8) -implicitDefEqProofs [g22_tf,laws_eqSelection,g22_E] <;> (try simp only [map_to_bind,some_elim,g22_O])
def g22_r:Rule:=RlO g22_E (fun a=>laws_eqSelection a.1 a.2) g22_O
theorem g22_ok:RuleOk Tryd.prog 12 g22_r:=ok_rlo (S:=g22_S) (tf:=g22_tf) (SysOk.on ⟨g34_ok,g35_ok,trivial⟩ trivial) (trE_ok (ks:=[]) Tryd.func12 (by kernel_rfl)) fun a=>g22_run a.1 a.2
@[simp] theorem g22_app (y0 y1 y2 y3 y4 y5 y6 y7 y8 y9 y10 y11):g22_r [(.agg [(.int .i64 y0),(.vs (rows y1)),(.vs (rows y2)),(.vs (rows y3)),(.vs (rows y4)),(.vs (rows y5))]),(.agg [(.int .i64 y6),(.vs (rows y7)),(.vs (rows y8)),(.vs (rows y9)),(.vs (rows y10)),(.vs (rows y11))])]=(laws_eqSelection ((y0,y1,y2,y3,y4,y5)) ((y6,y7,y8,y9,y10,y11))).map g22_O :=
  RlO_app (enc:=g22_E) (by intro a b h;simp [g22_E,Prod.ext_iff] at h ⊢;simp [h]) ((y0,y1,y2,y3,y4,y5),(y6,y7,y8,y9,y10,y11))
/-! laws.FnExactSelectionText -/
def g10_tf:TFn:=⟨(sq [bx 1 0,mk 2 (kb false)] [1] (sq [mk 3 (ki 1048576)] [1,3] (sq [ln 7 6 1,mo 8 3,ca 9 8 [.t 7,.t 8],mo 3 9] [1,3] (.seq (sq [mo 10 3,bn 11 .lss (.t 10) (ki 0)] [1,11] (.cond (.t 11) (.seq (.ops [mk 2 (kb true)]) (.keep (kp [(2,0)] [] 0) .ret)) .skip)) (.trim [1] (sq [ln 12 6 1,ca 13 10 [.t 12],ca 14 9 [.t 13],mo 4 14] [1,4] (sq [ln 15 6 1,ca 16 10 [.t 15],oo 5 (.alloc [(.int .i64 0),.nils,.nils,.nils,.nils,.nils]),⟨none,none,(.store 6 (.t 5) (.t 16))⟩] [1,4,5] (sq [ln 17 6 5,ca 18 11 [.t 17],mo 6 18] [1,4,5,6] (.seq (sq [mo 19 6,mo 20 4,oo 21 (.bin .str .neq (.t 19) (.t 20))] [1,5,21] (.cond (.t 21) (.seq (.ops [mk 2 (kb false)]) (.keep (kp [(2,0)] [] 0) .ret)) .skip)) (.trim [1,5] (.seq (.seq (.draw [([],ln 22 6 5),([],ln 23 6 1),([1],ca 24 10 [.t 23])] [ca 25 12 [.t 22,.t 24],nt 26 25]) (.trim [26] (.cond (.t 26) (.seq (.ops [mk 2 (kb false)]) (.keep (kp [(2,0)] [] 0) .ret)) .skip))) (.trim [] (.seq (.ops [mk 2 (kb true)]) (.keep (kp [(2,0)] [] 0) .ret)))))))))))))),[.t 2]⟩
abbrev g10_S:=Sys.on [(8,g20_r),(10,g21_r),(9,g14_r),(11,g17_r),(12,g22_r)] []
def laws_FnExactSelectionText (a_aS:K0):Option (Bool):=(laws_szSelection a_aS 1048576).bind fun r1=>if r1 < 0 then some true else (laws_toSelection a_aS).bind fun r2=>(spec_SelectionText r2).bind fun r3=>(laws_toSelection a_aS).bind fun r4=>(impl_SelectionText r4).bind fun r5=>if ¬(r5=r3) then some false else (laws_toSelection a_aS).bind fun r6=>(laws_eqSelection r4 r6).bind fun r7=>if ¬(r7=true) then some false else some true
@[simp] def g10_O:Bool→TV×List Blk:=fun r=>((.bool r),[])
def g10_E (a:K0):List TV:=[(.agg [(.int .i64 a.1),(.vs (rows a.2.1)),(.vs (rows a.2.2.1)),(.vs (rows a.2.2.2.1)),(.vs (rows a.2.2.2.2.1)),(.vs (rows a.2.2.2.2.2))])]
theorem g10_run (a_aS:K0) :callFn (X g10_S) g10_tf (g10_E a_aS) []=(laws_FnExactSelectionText a_aS).map g10_O:=by
  rw [callFn_eq]
  simp (maxSteps:=2000000) (maxDischargeDepth:=8) -implicitDefEqProofs [g10_tf,laws_FnExactSelectionText,g10_E] <;> (try simp only [map_to_bind,some_elim,g10_O])
def laws_FnExactSelectionText_r:Rule:=RlO g10_E (fun a=>laws_FnExactSelectionText a) g10_O
theorem laws_FnExactSelectionText_ok:RuleOk Tryd.prog 3 laws_FnExactSelectionText_r:=ok_rlo (S:=g10_S) (tf:=g10_tf) (SysOk.on ⟨g20_ok,g21_ok,g14_ok,g17_ok,g22_ok,trivial⟩ trivial) (trE_ok (ks:=[[3]]) Tryd.func3 (by kernel_rfl)) fun a=>g10_run a
@[simp] theorem laws_FnExactSelectionText_app (y0 y1 y2 y3 y4 y5):laws_FnExactSelectionText_r [(.agg [(.int .i64 y0),(.vs (rows y1)),(.vs (rows y2)),(.vs (rows y3)),(.vs (rows y4)),(.vs (rows y5))])]=(laws_FnExactSelectionText ((y0,y1,y2,y3,y4,y5))).map g10_O :=
  RlO_app (enc:=g10_E) (by intro a b h;simp [g10_E,Prod.ext_iff] at h ⊢;simp [h]) ((y0,y1,y2,y3,y4,y5))
end
end Go.Proofs.TM
