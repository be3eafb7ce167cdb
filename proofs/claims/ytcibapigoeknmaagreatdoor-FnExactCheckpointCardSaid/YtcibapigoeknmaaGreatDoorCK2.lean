/- Functions of the program, as functions of their data: written by program. -/
import Derived.Test.YtcibapigoeknmaaGreatDoorCK1
namespace Go.Proofs.TM
open Go Go.Proofs
set_option linter.unusedVariables false
set_option linter.unusedSimpArgs false
set_option maxHeartbeats 1000000
attribute [-simp] Option.map_bind strV_some
attribute [simp] guardOn_bool sA_bslice Function.comp_def
noncomputable section
/-! impl.ValidPages -/
def g52l1_cb:TC:=(sq [bn 8 .lss (.t 7) (.t 6)] [0,5,6,7,8] (.seq (.cond (.t 8) .skip (.keep (kp [(0,0)] [] 0) (.exit 0))) (.trim [0,5,6,7] (.seq (.block 1 (sq [mo 9 7,ia 10 2 5 7,ln 11 2 10,oo 4 (.alloc [(.int .i64 0),(.str [])]),mo 3 9,⟨none,none,(.store 2 (.t 4) (.t 11))⟩] [0,3,4,5,6,7] (.seq (.draw [([],fa 12 0 4),([0],ld 13 12),([0,1],ca 14 48 [.t 13,ki 0,ki 255]),([0,1,2],nt 15 14),([0,1,2,3],mo 16 15),([0,1,2,3,4],⟨(some 17),(some (16,false)),(.mv (.t 3))⟩),([0,1,2,3,4,5],⟨(some 18),(some (16,false)),(.bin .num .gtr (.t 17) (ki 0))⟩),([0,1,2,3,4,5,6],⟨(some 19),(some (16,false)),(.mv (.t 18))⟩),([0,1,2,3,4,5,6,7],⟨(some 20),(some (19,true)),(.faddr 0 (.t 4))⟩),([0,1,2,3,4,5,6,7,8],⟨(some 21),(some (19,true)),(.load none (.t 20))⟩),([0,1,2,3,4,5,6,7],⟨(some 22),(some (19,true)),(.mv (.t 0))⟩),([0,1,2,3,4,5,6,7],⟨(some 23),(some (19,true)),(.mv (.t 3))⟩),([0,1,2,3,4,5,6,7,11],⟨(some 24),(some (19,true)),(.bin .num .sub (.t 23) (ki 1))⟩),([0,1,2,3,4,5,6,7,10,11,12],⟨(some 25),(some (19,true)),(.iaddr 2 (.t 22) (.t 24))⟩),([0,1,2,3,4,5,6,7,10,11,12,13],⟨(some 26),(some (19,true)),(.faddr 0 (.t 25))⟩),([0,1,2,3,4,5,6,7,10,11,12,13,14],⟨(some 27),(some (19,true)),(.load none (.t 26))⟩)] [⟨(some 28),(some (19,true)),(.bin .num .leq (.t 21) (.t 27))⟩,⟨(some 29),(some (16,false)),(.pick (.t 19) (.t 28) (kb false))⟩,pk 30 (.t 16) (kb true) (.t 29),mo 31 30,⟨(some 32),(some (31,false)),(.faddr 1 (.t 4))⟩,⟨(some 33),(some (31,false)),(.load none (.t 32))⟩,⟨(some 34),(some (31,false)),(.call 79 [.t 33])⟩,⟨(some 35),(some (31,false)),(.un .not (.t 34))⟩,pk 36 (.t 31) (kb true) (.t 35)]) (.trim [0,5,6,7,36] (.cond (.t 36) (.seq (.ops [mk 2 (kb false)]) (.keep (kp [(2,0)] [] 0) .ret)) (.keep (kp [(0,0),(5,0),(6,0),(7,0)] [] 0) .skip)))))) (.trim [0,5,6,7] (.after (.ops [bn 37 .add (.t 7) (ki 1),mo 7 37]) (kp [(0,0),(5,0),(6,0),(7,0)] [] 0)))))))
def g52l1_c:TC:=.loop [0,5,6,7] g52l1_cb
def g52_tf:TFn:=⟨(sq [mk 2 (kb false)] [0] (.seq (sq [mo 5 0,le 6 5,mk 7 (ki 0)] [0,5,6,7] (.block 0 (.keep (kp [(0,0),(5,0),(6,0),(7,0)] [] 0) g52l1_c))) (.trim [0] (.seq (.ops [mo 38 0,le 39 38,bn 40 .leq (.t 39) (ki 256),mo 2 40]) (.keep (kp [(2,0)] [] 0) .ret))))),[.t 2]⟩
abbrev g52_S:=Sys.on [(48,g103_r),(79,g88_r)] []
@[reducible,simp] def g52l1_F:(((List (Int × Str))) ⊕ (Bool)) → Out:=(Sum.elim (fun t=>(.ext 0,[(0,(.vs (rows t)))],[])) (fun t=>(.ret,[(2,(.bool t))],[])))
def impl_ValidPages_l1_b (v1:List (Int × Str)) (v2:List (Int × Str)) (v3:Int) (v4:Int):Option ((Int) ⊕ (((List (Int × Str))) ⊕ (Bool))):=if v4 < v3 then if 0 ≤ v4 then (v2[(v4).toNat]?).bind fun x5=>(impl_within x5.1 0 255).bind fun r6=>if ¬(r6 = true) then some (.inr (.inr false)) else if v4 > 0 then if 0 ≤ (IntKind.i64.wrap (v4 - 1)) then (v1[((IntKind.i64.wrap (v4 - 1))).toNat]?).bind fun x7=>if x5.1 ≤ x7.1 then some (.inr (.inr false)) else (impl_isBlock x5.2).bind fun r8=>if ¬(r8 = true) then some (.inr (.inr false)) else some (.inl ((IntKind.i64.wrap (v4 + 1)))) else none else (impl_isBlock x5.2).bind fun r9=>if ¬(r9 = true) then some (.inr (.inr false)) else some (.inl ((IntKind.i64.wrap (v4 + 1)))) else none else some (.inr (.inl v1))
theorem g52l1_b_eq  (v1:List (Int × Str)) (v2:List (Int × Str)) (v3:Int) (v4:Int):X g52_S g52l1_cb (keepEnv [0,5,6,7] [(0,(.vs (rows v1))),(5,(.vs (rows v2))),(6,(.int .i64 v3)),(7,(.int .i64 v4))]) [] = (impl_ValidPages_l1_b v1 v2 v3 v4).map (Sum.elim (fun s=>(TX.nrm,[(0,(.vs (rows v1))),(5,(.vs (rows v2))),(6,(.int .i64 v3)),(7,(.int .i64 s))],[])) g52l1_F):=by
  simp (maxSteps:=2000000) (maxDischargeDepth:=8) -implicitDefEqProofs [g52l1_cb,impl_ValidPages_l1_b] <;> (try simp only [map_to_bind,some_elim,g52l1_F])
def impl_ValidPages_l1 (v1:List (Int × Str)) (v2:List (Int × Str)) (v3:Int) (s:Int):Option (((List (Int × Str))) ⊕ (Bool)):=loopO (fun s=>impl_ValidPages_l1_b v1 v2 v3 s) s
@[simp] theorem g52l1_eq (y0 y1 y2 y3):X g52_S g52l1_c [(0,(.vs (rows y0))),(5,(.vs (rows y1))),(6,(.int .i64 y2)),(7,(.int .i64 y3))] [] = (impl_ValidPages_l1 y0 y1 y2 y3).map g52l1_F:=by
  exact loop_X _ _ _ _ (by intro r; first | (simp; done) | (rcases r with r | r <;> simp; done) | (rcases r with r | r | r <;> simp; done) | (rcases r with r | r | r | r <;> simp)) (fun s=>g52l1_b_eq  y0 y1 y2 s) y3
def impl_ValidPages (a_list:List (Int × Str)):Option (Bool):=(impl_ValidPages_l1 a_list a_list ((a_list.length:Int)) 0).bind fun r10=>Sum.elim (fun u11=>some ((decide ((u11.length:Int) ≤ 256)))) (fun u12=>some u12) r10
@[simp] def g52_O:Bool → TV × List Blk:=fun r=>((.bool r),[])
def g52_E (a:(List (Int × Str))):List TV:=[(.vs (rows a))]
theorem g52_run (a_list:List (Int × Str)) :callFn (X g52_S) g52_tf (g52_E a_list) [] = (impl_ValidPages a_list).map g52_O:=by
  rw [callFn_eq]
  simp (maxSteps:=2000000) (maxDischargeDepth:=8) -implicitDefEqProofs [g52_tf,impl_ValidPages,g52_E] <;> (try simp only [map_to_bind,some_elim,g52_O])
def g52_r:Rule:=RlO g52_E (fun a=>impl_ValidPages a) g52_O
theorem g52_ok:RuleOk Tryz.prog 49 g52_r:=ok_rlo (S:=g52_S) (tf:=g52_tf) (SysOk.on ⟨g103_ok,g88_ok,trivial⟩ trivial) (trE_ok (ks:=[[0,5,6,7],[16]]) Tryz.func49 (by kernel_rfl)) fun a=>g52_run a
@[simp] theorem g52_app (y0):g52_r [(.vs (rows y0))] = (impl_ValidPages y0).map g52_O :=
  RlO_app (enc:=g52_E) (by intro a b h; simp [g52_E,Prod.ext_iff] at h ⊢; simp [h]) y0
/-! impl.AreaBlock -/
def g65_tf:TFn:=⟨(sq [bx 1 0,mk 2 (ki 0)] [1] (.seq (sq [ln 3 4 1,ca 4 78 [.t 3],nt 5 4] [1,5] (.cond (.t 5) (.seq (.ops [mk 2 (ki 0)]) (.keep (kp [(2,0)] [] 0) .ret)) .skip)) (.trim [1] (.seq (.ops [fa 6 1 1,ld 7 6,bn 8 .add (ki 2) (.t 7),mo 2 8]) (.keep (kp [(2,0)] [] 0) .ret))))),[.t 2]⟩
abbrev g65_S:=Sys.on [(78,g51_r)] []
def impl_AreaBlock (a_s:Int × Int × Int × Int):Option (Int):=(impl_ValidSuper a_s).bind fun r1=>if ¬(r1 = true) then some 0 else some ((IntKind.i64.wrap (2 + a_s.2.1)))
@[simp] def g65_O:Int → TV × List Blk:=fun r=>((.int .i64 r),[])
def g65_E (a:(Int × Int × Int × Int)):List TV:=[(.agg [(.int .i64 a.1),(.int .i64 a.2.1),(.int .i64 a.2.2.1),(.int .i64 a.2.2.2)])]
theorem g65_run (a_s:Int × Int × Int × Int) :callFn (X g65_S) g65_tf (g65_E a_s) [] = (impl_AreaBlock a_s).map g65_O:=by
  rw [callFn_eq]
  simp (maxSteps:=2000000) (maxDischargeDepth:=8) -implicitDefEqProofs [g65_tf,impl_AreaBlock,g65_E] <;> (try simp only [map_to_bind,some_elim,g65_O])
def g65_r:Rule:=RlO g65_E (fun a=>impl_AreaBlock a) g65_O
theorem g65_ok:RuleOk Tryz.prog 82 g65_r:=ok_rlo (S:=g65_S) (tf:=g65_tf) (SysOk.on ⟨g51_ok,trivial⟩ trivial) (trE_ok (ks:=[]) Tryz.func82 (by kernel_rfl)) fun a=>g65_run a
@[simp] theorem g65_app (y0 y1 y2 y3):g65_r [(.agg [(.int .i64 y0),(.int .i64 y1),(.int .i64 y2),(.int .i64 y3)])] = (impl_AreaBlock ((y0,y1,y2,y3))).map g65_O :=
  RlO_app (enc:=g65_E) (by intro a b h; simp [g65_E,Prod.ext_iff] at h ⊢; simp [h]) ((y0,y1,y2,y3))
/-! (impl.Super).inArea.1 -/
def g19_tf:TFn:=⟨(sq [bx 2 0,mk 3 (kb false)] [1,2] (.seq (.draw [([],fa 4 0 2),([0],ld 5 4),([],ln 6 4 1),([2],ca 7 82 [.t 6]),([],fa 8 0 1),([4],ld 9 8),([4,5],bn 10 .sub (.t 9) (ki 1))] [ca 11 48 [.t 5,.t 7,.t 10],nt 12 11,mo 3 12]) (.keep (kp [(3,0)] [] 0) .ret))),[.t 3]⟩
abbrev g19_S:=Sys.on [(82,g65_r),(48,g103_r)] []
def impl_Super_inArea_c1 (a_p:Int × Str) (a_p':Int) (a_p'':Int) (a_p''':Int) (a_p'''':Int):Option (Bool):=(impl_AreaBlock ((a_p',a_p'',a_p''',a_p''''))).bind fun r1=>(impl_within a_p.1 r1 ((IntKind.i64.wrap (a_p' - 1)))).bind fun r2=>some ((!r2))
@[simp] def g19_O:Bool → TV × List Blk:=fun r=>((.bool r),[])
def g19_E (a:(Int × Str) × Int × Int × Int × Int):List TV:=[(.agg [(.int .i64 a.1.1),(.str a.1.2)]),(.vp [(.int .i64 a.2.1),(.int .i64 a.2.2.1),(.int .i64 a.2.2.2.1),(.int .i64 a.2.2.2.2)])]
theorem g19_run (a_p:Int × Str) (a_p':Int) (a_p'':Int) (a_p''':Int) (a_p'''':Int) :callFn (X g19_S) g19_tf (g19_E (a_p,a_p',a_p'',a_p''',a_p'''')) [] = (impl_Super_inArea_c1 a_p a_p' a_p'' a_p''' a_p'''').map g19_O:=by
  rw [callFn_eq]
  simp (maxSteps:=2000000) (maxDischargeDepth:=8) -implicitDefEqProofs [g19_tf,impl_Super_inArea_c1,g19_E] <;> (try simp only [map_to_bind,some_elim,g19_O])
def g19_r:Rule:=RlO g19_E (fun a=>impl_Super_inArea_c1 a.1 a.2.1 a.2.2.1 a.2.2.2.1 a.2.2.2.2) g19_O
theorem g19_ok:RuleOk Tryz.prog 81 g19_r:=ok_rlo (S:=g19_S) (tf:=g19_tf) (SysOk.on ⟨g65_ok,g103_ok,trivial⟩ trivial) (trE_ok (ks:=[[7]]) Tryz.func81 (by kernel_rfl)) fun a=>g19_run a.1 a.2.1 a.2.2.1 a.2.2.2.1 a.2.2.2.2
@[simp] theorem g19_app (y0 y1 y2 y3 y4 y5):g19_r [(.agg [(.int .i64 y0),(.str y1)]),(.vp [(.int .i64 y2),(.int .i64 y3),(.int .i64 y4),(.int .i64 y5)])] = (impl_Super_inArea_c1 ((y0,y1)) y2 y3 y4 y5).map g19_O :=
  RlO_app (enc:=g19_E) (by intro a b h; simp [g19_E,Prod.ext_iff] at h ⊢; simp [h]) ((y0,y1),y2,y3,y4,y5)
/-! slices.IndexFunc[[]impl.Page,impl.Page] -/
def g1l1_cb:TC:=(sq [bn 9 .lss (.t 8) (.t 7)] [0,1,7,8,9] (.seq (.cond (.t 9) .skip (.keep (kp [] [] 0) (.exit 0))) (.trim [0,1,7,8] (.seq (.block 1 (sq [mo 10 8,mo 5 10] [0,1,5,7,8] (sq [mo 11 1,mo 12 0,mo 13 5,ia 14 2 12 13,ln 15 2 14,oo 16 (.callv (.t 11) [.t 15])] [0,1,5,7,8,16] (.cond (.t 16) (.seq (.ops [mo 17 5,mo 4 17]) (.keep (kp [(4,0)] [] 0) .ret)) .skip)))) (.trim [0,1,7,8] (.after (.ops [bn 18 .add (.t 8) (ki 1),mo 8 18]) (kp [(0,0),(1,0),(7,0),(8,0)] [] 0)))))))
def g1l1_c:TC:=.loop [0,1,7,8] g1l1_cb
def g1_tf:TFn:=⟨(sq [mk 4 (ki 0)] [0,1] (.seq (sq [mo 6 0,le 7 6,mk 8 (ki 0)] [0,1,7,8] (.block 0 (.keep (kp [(0,0),(1,0),(7,0),(8,0)] [] 0) g1l1_c))) (.trim [] (.seq (.ops [mk 4 (ki (-1))]) (.keep (kp [(4,0)] [] 0) .ret))))),[.t 4]⟩
abbrev g1_S:=Sys.on [(81,g19_r)] []
@[reducible,simp] def g1l1_F:((Unit) ⊕ (Int)) → Out:=(Sum.elim (fun t=>(.ext 0,[],[])) (fun t=>(.ret,[(4,(.int .i64 t))],[])))
def slices_IndexFunc_impl_Page_impl_Page__Super_inArea_c1_l1_b (v1:List (Int × Str)) (v2:Int) (v3:Int) (v4:Int) (v5:Int) (v6:Int) (v7:Int):Option ((Int) ⊕ ((Unit) ⊕ (Int))):=if v7 < v6 then if 0 ≤ v7 then (v1[(v7).toNat]?).bind fun x8=>(impl_Super_inArea_c1 x8 v2 v3 v4 v5).bind fun r9=>if r9 = true then some (.inr (.inr v7)) else some (.inl ((IntKind.i64.wrap (v7 + 1)))) else none else some (.inr (.inl ()))
theorem g1l1_b_eq  (v1:List (Int × Str)) (v2:Int) (v3:Int) (v4:Int) (v5:Int) (v6:Int) (v7:Int):X g1_S g1l1_cb (keepEnv [0,1,7,8] [(0,(.vs (rows v1))),(1,(.fn 81 [] [(.vp [(.int .i64 v2),(.int .i64 v3),(.int .i64 v4),(.int .i64 v5)])])),(7,(.int .i64 v6)),(8,(.int .i64 v7))]) [] = (slices_IndexFunc_impl_Page_impl_Page__Super_inArea_c1_l1_b v1 v2 v3 v4 v5 v6 v7).map (Sum.elim (fun s=>(TX.nrm,[(0,(.vs (rows v1))),(1,(.fn 81 [] [(.vp [(.int .i64 v2),(.int .i64 v3),(.int .i64 v4),(.int .i64 v5)])])),(7,(.int .i64 v6)),(8,(.int .i64 s))],[])) g1l1_F):=by
  simp (maxSteps:=2000000) (maxDischargeDepth:=8) -implicitDefEqProofs [g1l1_cb,slices_IndexFunc_impl_Page_impl_Page__Super_inArea_c1_l1_b] <;> (try simp only [map_to_bind,some_elim,g1l1_F])
def slices_IndexFunc_impl_Page_impl_Page__Super_inArea_c1_l1 (v1:List (Int × Str)) (v2:Int) (v3:Int) (v4:Int) (v5:Int) (v6:Int) (s:Int):Option ((Unit) ⊕ (Int)):=loopO (fun s=>slices_IndexFunc_impl_Page_impl_Page__Super_inArea_c1_l1_b v1 v2 v3 v4 v5 v6 s) s
@[simp] theorem g1l1_eq (y0 y1 y2 y3 y4 y5 y6):X g1_S g1l1_c [(0,(.vs (rows y0))),(1,(.fn 81 [] [(.vp [(.int .i64 y1),(.int .i64 y2),(.int .i64 y3),(.int .i64 y4)])])),(7,(.int .i64 y5)),(8,(.int .i64 y6))] [] = (slices_IndexFunc_impl_Page_impl_Page__Super_inArea_c1_l1 y0 y1 y2 y3 y4 y5 y6).map g1l1_F:=by
  exact loop_X _ _ _ _ (by intro r; first | (simp; done) | (rcases r with r | r <;> simp; done) | (rcases r with r | r | r <;> simp; done) | (rcases r with r | r | r | r <;> simp)) (fun s=>g1l1_b_eq  y0 y1 y2 y3 y4 y5 s) y6
def slices_IndexFunc_impl_Page_impl_Page__Super_inArea_c1 (a_s:List (Int × Str)) (a_f:Int) (a_f':Int) (a_f'':Int) (a_f''':Int):Option (Int):=(slices_IndexFunc_impl_Page_impl_Page__Super_inArea_c1_l1 a_s a_f a_f' a_f'' a_f''' ((a_s.length:Int)) 0).bind fun r10=>Sum.elim (fun u11=>some ((-1))) (fun u12=>some u12) r10
@[simp] def g1_O:Int → TV × List Blk:=fun r=>((.int .i64 r),[])
def g1_E (a:(List (Int × Str)) × Int × Int × Int × Int):List TV:=[(.vs (rows a.1)),(.fn 81 [] [(.vp [(.int .i64 a.2.1),(.int .i64 a.2.2.1),(.int .i64 a.2.2.2.1),(.int .i64 a.2.2.2.2)])])]
theorem g1_run (a_s:List (Int × Str)) (a_f:Int) (a_f':Int) (a_f'':Int) (a_f''':Int) :callFn (X g1_S) g1_tf (g1_E (a_s,a_f,a_f',a_f'',a_f''')) [] = (slices_IndexFunc_impl_Page_impl_Page__Super_inArea_c1 a_s a_f a_f' a_f'' a_f''').map g1_O:=by
  rw [callFn_eq]
  simp (maxSteps:=2000000) (maxDischargeDepth:=8) -implicitDefEqProofs [g1_tf,slices_IndexFunc_impl_Page_impl_Page__Super_inArea_c1,g1_E] <;> (try simp only [map_to_bind,some_elim,g1_O])
def g1_r:Rule:=RlO g1_E (fun a=>slices_IndexFunc_impl_Page_impl_Page__Super_inArea_c1 a.1 a.2.1 a.2.2.1 a.2.2.2.1 a.2.2.2.2) g1_O
theorem g1_ok:RuleOk Tryz.prog 102 g1_r:=ok_rlo (S:=g1_S) (tf:=g1_tf) (SysOk.on ⟨g19_ok,trivial⟩ trivial) (trE_ok (ks:=[[0,1,7,8]]) Tryz.func102 (by kernel_rfl)) fun a=>g1_run a.1 a.2.1 a.2.2.1 a.2.2.2.1 a.2.2.2.2
@[simp] theorem g1_app (y0 y1 y2 y3 y4):g1_r [(.vs (rows y0)),(.fn 81 [] [(.vp [(.int .i64 y1),(.int .i64 y2),(.int .i64 y3),(.int .i64 y4)])])] = (slices_IndexFunc_impl_Page_impl_Page__Super_inArea_c1 y0 y1 y2 y3 y4).map g1_O :=
  RlO_app (enc:=g1_E) (by intro a b h; simp [g1_E,Prod.ext_iff] at h ⊢; simp [h]) (y0,y1,y2,y3,y4)
/-! slices.ContainsFunc[[]impl.Page,impl.Page] -/
def g0_tf:TFn:=⟨(sq [mk 4 (kb false)] [0,1] (.seq (.ops [mo 5 0,mo 6 1,ca 7 102 [.t 5,.t 6],bn 8 .geq (.t 7) (ki 0),mo 4 8]) (.keep (kp [(4,0)] [] 0) .ret))),[.t 4]⟩
abbrev g0_S:=Sys.on [(102,g1_r)] []
def slices_ContainsFunc_impl_Page_impl_Page__Super_inArea_c1 (a_s:List (Int × Str)) (a_f:Int) (a_f':Int) (a_f'':Int) (a_f''':Int):Option (Bool):=(slices_IndexFunc_impl_Page_impl_Page__Super_inArea_c1 a_s a_f a_f' a_f'' a_f''').bind fun r1=>some ((decide (r1 ≥ 0)))
@[simp] def g0_O:Bool → TV × List Blk:=fun r=>((.bool r),[])
def g0_E (a:(List (Int × Str)) × Int × Int × Int × Int):List TV:=[(.vs (rows a.1)),(.fn 81 [] [(.vp [(.int .i64 a.2.1),(.int .i64 a.2.2.1),(.int .i64 a.2.2.2.1),(.int .i64 a.2.2.2.2)])])]
theorem g0_run (a_s:List (Int × Str)) (a_f:Int) (a_f':Int) (a_f'':Int) (a_f''':Int) :callFn (X g0_S) g0_tf (g0_E (a_s,a_f,a_f',a_f'',a_f''')) [] = (slices_ContainsFunc_impl_Page_impl_Page__Super_inArea_c1 a_s a_f a_f' a_f'' a_f''').map g0_O:=by
  rw [callFn_eq]
  simp (maxSteps:=2000000) (maxDischargeDepth:=8) -implicitDefEqProofs [g0_tf,slices_ContainsFunc_impl_Page_impl_Page__Super_inArea_c1,g0_E] <;> (try simp only [map_to_bind,some_elim,g0_O])
def g0_r:Rule:=RlO g0_E (fun a=>slices_ContainsFunc_impl_Page_impl_Page__Super_inArea_c1 a.1 a.2.1 a.2.2.1 a.2.2.2.1 a.2.2.2.2) g0_O
theorem g0_ok:RuleOk Tryz.prog 80 g0_r:=ok_rlo (S:=g0_S) (tf:=g0_tf) (SysOk.on ⟨g1_ok,trivial⟩ trivial) (trE_ok (ks:=[]) Tryz.func80 (by kernel_rfl)) fun a=>g0_run a.1 a.2.1 a.2.2.1 a.2.2.2.1 a.2.2.2.2
@[simp] theorem g0_app (y0 y1 y2 y3 y4):g0_r [(.vs (rows y0)),(.fn 81 [] [(.vp [(.int .i64 y1),(.int .i64 y2),(.int .i64 y3),(.int .i64 y4)])])] = (slices_ContainsFunc_impl_Page_impl_Page__Super_inArea_c1 y0 y1 y2 y3 y4).map g0_O :=
  RlO_app (enc:=g0_E) (by intro a b h; simp [g0_E,Prod.ext_iff] at h ⊢; simp [h]) (y0,y1,y2,y3,y4)
/-! (impl.Super).inArea -/
def g39_tf:TFn:=⟨(sq [bx 2 0,mk 4 (kb false)] [1,2] (.seq (.ops [mo 5 1,oo 6 (.mkfn 81 [] [.t 2]),ca 7 80 [.t 5,.t 6],nt 8 7,mo 4 8]) (.keep (kp [(4,0)] [] 0) .ret))),[.t 4]⟩
abbrev g39_S:=Sys.on [(80,g0_r)] []
def impl_Super_inArea (a_s:Int × Int × Int × Int) (a_list:List (Int × Str)):Option (Bool):=(slices_ContainsFunc_impl_Page_impl_Page__Super_inArea_c1 a_list a_s.1 a_s.2.1 a_s.2.2.1 a_s.2.2.2).bind fun r1=>some ((!r1))
@[simp] def g39_O:Bool → TV × List Blk:=fun r=>((.bool r),[])
def g39_E (a:(Int × Int × Int × Int) × (List (Int × Str))):List TV:=[(.agg [(.int .i64 a.1.1),(.int .i64 a.1.2.1),(.int .i64 a.1.2.2.1),(.int .i64 a.1.2.2.2)]),(.vs (rows a.2))]
theorem g39_run (a_s:Int × Int × Int × Int) (a_list:List (Int × Str)) :callFn (X g39_S) g39_tf (g39_E (a_s,a_list)) [] = (impl_Super_inArea a_s a_list).map g39_O:=by
  rw [callFn_eq]
  simp (maxSteps:=2000000) (maxDischargeDepth:=8) -implicitDefEqProofs [g39_tf,impl_Super_inArea,g39_E] <;> (try simp only [map_to_bind,some_elim,g39_O])
def g39_r:Rule:=RlO g39_E (fun a=>impl_Super_inArea a.1 a.2) g39_O
theorem g39_ok:RuleOk Tryz.prog 50 g39_r:=ok_rlo (S:=g39_S) (tf:=g39_tf) (SysOk.on ⟨g0_ok,trivial⟩ trivial) (trE_ok (ks:=[]) Tryz.func50 (by kernel_rfl)) fun a=>g39_run a.1 a.2
@[simp] theorem g39_app (y0 y1 y2 y3 y4):g39_r [(.agg [(.int .i64 y0),(.int .i64 y1),(.int .i64 y2),(.int .i64 y3)]),(.vs (rows y4))] = (impl_Super_inArea ((y0,y1,y2,y3)) y4).map g39_O :=
  RlO_app (enc:=g39_E) (by intro a b h; simp [g39_E,Prod.ext_iff] at h ⊢; simp [h]) ((y0,y1,y2,y3),y4)
/-! impl.tableBlocks -/
def g46_tf:TFn:=⟨(sq [mk 2 (ki 0)] [0] (.seq (.ops [mo 3 0,bn 4 .mul (ki 2) (.t 3),bn 5 .add (.t 4) (ki 64),bn 6 .sub (.t 5) (ki 1),bn 7 .quo (.t 6) (ki 64),mo 2 7]) (.keep (kp [(2,0)] [] 0) .ret))),[.t 2]⟩
abbrev g46_S:=Sys.on [] []
def impl_tableBlocks (a_pages:Int):Option (Int):=some ((IntKind.i64.wrap (Int.tdiv ((IntKind.i64.wrap ((IntKind.i64.wrap ((IntKind.i64.wrap (2 * a_pages)) + 64)) - 1))) 64)))
@[simp] def g46_O:Int → TV × List Blk:=fun r=>((.int .i64 r),[])
def g46_E (a:Int):List TV:=[(.int .i64 a)]
theorem g46_run (a_pages:Int) :callFn (X g46_S) g46_tf (g46_E a_pages) [] = (impl_tableBlocks a_pages).map g46_O:=by
  rw [callFn_eq]
  simp (maxSteps:=2000000) (maxDischargeDepth:=8) -implicitDefEqProofs [g46_tf,impl_tableBlocks,g46_E] <;> (try simp only [map_to_bind,some_elim,g46_O])
def g46_r:Rule:=RlO g46_E (fun a=>impl_tableBlocks a) g46_O
theorem g46_ok:RuleOk Tryz.prog 103 g46_r:=ok_rlo (S:=g46_S) (tf:=g46_tf) (SysOk.on trivial trivial) (trE_ok (ks:=[]) Tryz.func103 (by kernel_rfl)) fun a=>g46_run a
@[simp] theorem g46_app (y0):g46_r [(.int .i64 y0)] = (impl_tableBlocks y0).map g46_O :=
  RlO_app (enc:=g46_E) (by intro a b h; simp [g46_E,Prod.ext_iff] at h ⊢; simp [h]) y0
/-! impl.RecordBlocks -/
def g40_tf:TFn:=⟨(sq [mk 2 (ki 0)] [0] (.seq (sq [mo 3 0,ca 4 48 [.t 3,ki 1,ki 60],nt 5 4] [0,5] (.cond (.t 5) (.seq (.ops [mk 2 (ki 0)]) (.keep (kp [(2,0)] [] 0) .ret)) .skip)) (.trim [0] (.seq (.ops [mo 6 0,ca 7 103 [.t 6],bn 8 .add (ki 1) (.t 7),mo 9 0,bn 10 .add (.t 8) (.t 9),mo 2 10]) (.keep (kp [(2,0)] [] 0) .ret))))),[.t 2]⟩
abbrev g40_S:=Sys.on [(48,g103_r),(103,g46_r)] []
def impl_RecordBlocks (a_pages:Int):Option (Int):=(impl_within a_pages 1 60).bind fun r1=>if ¬(r1 = true) then some 0 else (impl_tableBlocks a_pages).bind fun r2=>some ((IntKind.i64.wrap ((IntKind.i64.wrap (1 + r2)) + a_pages)))
@[simp] def g40_O:Int → TV × List Blk:=fun r=>((.int .i64 r),[])
def g40_E (a:Int):List TV:=[(.int .i64 a)]
theorem g40_run (a_pages:Int) :callFn (X g40_S) g40_tf (g40_E a_pages) [] = (impl_RecordBlocks a_pages).map g40_O:=by
  rw [callFn_eq]
  simp (maxSteps:=2000000) (maxDischargeDepth:=8) -implicitDefEqProofs [g40_tf,impl_RecordBlocks,g40_E] <;> (try simp only [map_to_bind,some_elim,g40_O])
def g40_r:Rule:=RlO g40_E (fun a=>impl_RecordBlocks a) g40_O
theorem g40_ok:RuleOk Tryz.prog 83 g40_r:=ok_rlo (S:=g40_S) (tf:=g40_tf) (SysOk.on ⟨g103_ok,g46_ok,trivial⟩ trivial) (trE_ok (ks:=[]) Tryz.func83 (by kernel_rfl)) fun a=>g40_run a
@[simp] theorem g40_app (y0):g40_r [(.int .i64 y0)] = (impl_RecordBlocks y0).map g40_O :=
  RlO_app (enc:=g40_E) (by intro a b h; simp [g40_E,Prod.ext_iff] at h ⊢; simp [h]) y0
/-! (impl.Super).fits -/
def g53_tf:TFn:=⟨(sq [bx 2 0,mk 4 (kb false)] [1,2] (.seq (.after (.draw [([],mo 5 1),([0],bn 6 .leq (.t 5) (ki 60)),([0,1],mo 7 6),([0,1,2],⟨(some 8),(some (7,true)),(.mv (.t 1))⟩),([0,1,2,3],⟨(some 9),(some (7,true)),(.call 83 [.t 8])⟩),([0,1,2],⟨(some 10),(some (7,true)),(.faddr 1 (.t 2))⟩),([0,1,2,5],⟨(some 11),(some (7,true)),(.load none (.t 10))⟩)] [⟨(some 12),(some (7,true)),(.bin .num .leq (.t 9) (.t 11))⟩,pk 13 (.t 7) (.t 12) (kb false),mo 4 13]) (kp [(4,0)] [] 0)) (.keep (kp [(4,0)] [] 0) .ret))),[.t 4]⟩
abbrev g53_S:=Sys.on [(83,g40_r)] []
def impl_Super_fits (a_s:Int × Int × Int × Int) (a_pages:Int):Option (Bool):=if a_pages ≤ 60 then (impl_RecordBlocks a_pages).bind fun r1=>some ((decide (r1 ≤ a_s.2.1))) else some false
@[simp] def g53_O:Bool → TV × List Blk:=fun r=>((.bool r),[])
def g53_E (a:(Int × Int × Int × Int) × Int):List TV:=[(.agg [(.int .i64 a.1.1),(.int .i64 a.1.2.1),(.int .i64 a.1.2.2.1),(.int .i64 a.1.2.2.2)]),(.int .i64 a.2)]
theorem g53_run (a_s:Int × Int × Int × Int) (a_pages:Int) :callFn (X g53_S) g53_tf (g53_E (a_s,a_pages)) [] = (impl_Super_fits a_s a_pages).map g53_O:=by
  rw [callFn_eq]
  simp (maxSteps:=2000000) (maxDischargeDepth:=8) -implicitDefEqProofs [g53_tf,impl_Super_fits,g53_E] <;> (try simp only [map_to_bind,some_elim,g53_O])
def g53_r:Rule:=RlO g53_E (fun a=>impl_Super_fits a.1 a.2) g53_O
theorem g53_ok:RuleOk Tryz.prog 51 g53_r:=ok_rlo (S:=g53_S) (tf:=g53_tf) (SysOk.on ⟨g40_ok,trivial⟩ trivial) (trE_ok (ks:=[[7]]) Tryz.func51 (by kernel_rfl)) fun a=>g53_run a.1 a.2
@[simp] theorem g53_app (y0 y1 y2 y3 y4):g53_r [(.agg [(.int .i64 y0),(.int .i64 y1),(.int .i64 y2),(.int .i64 y3)]),(.int .i64 y4)] = (impl_Super_fits ((y0,y1,y2,y3)) y4).map g53_O :=
  RlO_app (enc:=g53_E) (by intro a b h; simp [g53_E,Prod.ext_iff] at h ⊢; simp [h]) ((y0,y1,y2,y3),y4)
/-! impl.ValidPager -/
def g54p1_c:TC:=(.seq (.after (.ops [fa 40 10 1,ld 41 40,ca 42 49 [.t 41],mo 43 42,⟨(some 44),(some (43,true)),(.faddr 11 (.t 1))⟩,⟨(some 45),(some (43,true)),(.load none (.t 44))⟩,⟨(some 46),(some (43,true)),(.call 49 [.t 45])⟩,pk 47 (.t 43) (.t 46) (kb false),mo 48 47,⟨(some 49),(some (48,true)),(.faddr 4 (.t 1))⟩,⟨(some 50),(some (48,true)),(.load (some 4) (.t 49))⟩,⟨(some 51),(some (48,true)),(.faddr 10 (.t 1))⟩,⟨(some 52),(some (48,true)),(.load none (.t 51))⟩,⟨(some 53),(some (48,true)),(.call 50 [.t 50,.t 52])⟩,pk 54 (.t 48) (.t 53) (kb false),mo 55 54,⟨(some 56),(some (55,true)),(.faddr 4 (.t 1))⟩,⟨(some 57),(some (55,true)),(.load (some 4) (.t 56))⟩,⟨(some 58),(some (55,true)),(.faddr 11 (.t 1))⟩,⟨(some 59),(some (55,true)),(.load none (.t 58))⟩,⟨(some 60),(some (55,true)),(.call 50 [.t 57,.t 59])⟩,pk 61 (.t 55) (.t 60) (kb false),mo 62 61,⟨(some 63),(some (62,true)),(.faddr 4 (.t 1))⟩,⟨(some 64),(some (62,true)),(.load (some 4) (.t 63))⟩,⟨(some 65),(some (62,true)),(.faddr 11 (.t 1))⟩,⟨(some 66),(some (62,true)),(.load none (.t 65))⟩,⟨(some 67),(some (62,true)),(.len false (.t 66))⟩,⟨(some 68),(some (62,true)),(.call 51 [.t 64,.t 67])⟩,pk 69 (.t 62) (.t 68) (kb false),mo 2 69]) (kp [(2,0)] [] 0)) (.keep (kp [(2,0)] [] 0) .ret))
def g54_tf:TFn:=⟨(sq [bx 1 0,mk 2 (kb false)] [1] (.seq (sq [fa 3 0 1,ln 4 4 3,fa 5 4 1,ln 6 4 5,ca 7 47 [.t 4,.t 6],nt 8 7,mo 9 8,⟨(some 10),(some (9,false)),(.faddr 0 (.t 1))⟩,⟨(some 11),(some (9,false)),(.faddr 1 (.t 10))⟩,⟨(some 12),(some (9,false)),(.load none (.t 11))⟩,⟨(some 13),(some (9,false)),(.len false (.t 12))⟩,⟨(some 14),(some (9,false)),(.bin .num .gtr (.t 13) (ki 1))⟩,⟨(some 15),(some (9,false)),(.mv (.t 14))⟩,⟨(some 16),(some (15,true)),(.faddr 0 (.t 1))⟩,⟨(some 17),(some (15,true)),(.faddr 3 (.t 16))⟩,⟨(some 18),(some (15,true)),(.load none (.t 17))⟩,⟨(some 19),(some (15,true)),(.un .not (.t 18))⟩,⟨(some 20),(some (9,false)),(.pick (.t 15) (.t 19) (kb false))⟩,pk 21 (.t 9) (kb true) (.t 20),mo 22 21,⟨(some 23),(some (22,false)),(.faddr 8 (.t 1))⟩,⟨(some 24),(some (22,false)),(.load none (.t 23))⟩,⟨(some 25),(some (22,false)),(.faddr 4 (.t 1))⟩,⟨(some 26),(some (22,false)),(.faddr 2 (.t 25))⟩,⟨(some 27),(some (22,false)),(.load none (.t 26))⟩,⟨(some 28),(some (22,false)),(.call 48 [.t 24,.t 27,ki 1000000000000])⟩,⟨(some 29),(some (22,false)),(.un .not (.t 28))⟩,pk 30 (.t 22) (kb true) (.t 29),mo 31 30,⟨(some 32),(some (31,false)),(.faddr 9 (.t 1))⟩,⟨(some 33),(some (31,false)),(.load none (.t 32))⟩,⟨(some 34),(some (31,false)),(.faddr 4 (.t 1))⟩,⟨(some 35),(some (31,false)),(.faddr 1 (.t 34))⟩,⟨(some 36),(some (31,false)),(.load none (.t 35))⟩,⟨(some 37),(some (31,false)),(.call 48 [.t 33,ki 0,.t 36])⟩,⟨(some 38),(some (31,false)),(.un .not (.t 37))⟩,pk 39 (.t 31) (kb true) (.t 38)] [1,39] (.cond (.t 39) (.seq (.ops [mk 2 (kb false)]) (.keep (kp [(2,0)] [] 0) .ret)) (.keep (kp [(1,0)] [(0,0)] 0) .skip))) (.trim [1] g54p1_c))),[.t 2]⟩
abbrev g54_S:=Sys.on [(47,g64_r),(48,g103_r),(49,g52_r),(50,g39_r),(51,g53_r)] []
@[reducible,simp] def g54p1_F:Bool → Out:=(fun t=>(.ret,[(2,(.bool t))],[]))
def impl_ValidPager_p1 (v6:K1):Option (Bool):=(impl_ValidPages v6.2.2.2.2.1).bind fun r7=>if r7 = true then (impl_ValidPages v6.2.2.2.2.2).bind fun r8=>if r8 = true then (impl_Super_inArea v6.2.1 v6.2.2.2.2.1).bind fun r9=>if r9 = true then (impl_Super_inArea v6.2.1 v6.2.2.2.2.2).bind fun r10=>if r10 = true then (impl_Super_fits v6.2.1 ((v6.2.2.2.2.2.length:Int))).bind fun r11=>some r11 else some false else some false else some false else some false
@[simp] theorem g54p1_eq (y0 y1 y2 y3 y4 y5 y6 y7 y8 y9 y10 y11):X g54_S g54p1_c [(1,(.ptr 0 0 0))] [(.live 12 [[(.vs (rows y0)),(.vs (rows y1)),(.int .i64 y2),(.bool y3),(.int .i64 y4),(.int .i64 y5),(.int .i64 y6),(.int .i64 y7),(.int .i64 y8),(.int .i64 y9),(.vs (rows y10)),(.vs (rows y11))]])] = (impl_ValidPager_p1 (((y0,y1,y2,y3),(y4,y5,y6,y7),y8,y9,y10,y11))).map g54p1_F:=by
  simp (maxSteps:=2000000) (maxDischargeDepth:=8) -implicitDefEqProofs [g54p1_c,impl_ValidPager_p1] <;> (try simp only [map_to_bind,some_elim,g54p1_F])
def impl_ValidPager (a_p:K1):Option (Bool):=(impl_superFits a_p.1 a_p.2.1).bind fun r1=>if ¬(r1 = true) then some false else if (a_p.1.2.1.length:Int) > 1 then if ¬(a_p.1.2.2.2 = true) then some false else (impl_within a_p.2.2.1 a_p.2.1.2.2.1 1000000000000).bind fun r2=>if ¬(r2 = true) then some false else (impl_within a_p.2.2.2.1 0 a_p.2.1.2.1).bind fun r3=>if ¬(r3 = true) then some false else (impl_ValidPager_p1 a_p).bind fun r12=>some r12 else (impl_within a_p.2.2.1 a_p.2.1.2.2.1 1000000000000).bind fun r4=>if ¬(r4 = true) then some false else (impl_within a_p.2.2.2.1 0 a_p.2.1.2.1).bind fun r5=>if ¬(r5 = true) then some false else (impl_ValidPager_p1 a_p).bind fun r13=>some r13
@[simp] def g54_O:Bool → TV × List Blk:=fun r=>((.bool r),[])
def g54_E (a:K1):List TV:=[(.agg [(.vs (rows a.1.1)),(.vs (rows a.1.2.1)),(.int .i64 a.1.2.2.1),(.bool a.1.2.2.2),(.int .i64 a.2.1.1),(.int .i64 a.2.1.2.1),(.int .i64 a.2.1.2.2.1),(.int .i64 a.2.1.2.2.2),(.int .i64 a.2.2.1),(.int .i64 a.2.2.2.1),(.vs (rows a.2.2.2.2.1)),(.vs (rows a.2.2.2.2.2))])]
theorem g54_run (a_p:K1) :callFn (X g54_S) g54_tf (g54_E a_p) [] = (impl_ValidPager a_p).map g54_O:=by
  rw [callFn_eq]
  simp (maxSteps:=2000000) (maxDischargeDepth:=8) -implicitDefEqProofs [g54_tf,impl_ValidPager,g54_E] <;> (try simp only [map_to_bind,some_elim,g54_O])
def g54_r:Rule:=RlO g54_E (fun a=>impl_ValidPager a) g54_O
theorem g54_ok:RuleOk Tryz.prog 20 g54_r:=ok_rlo (S:=g54_S) (tf:=g54_tf) (SysOk.on ⟨g64_ok,g103_ok,g52_ok,g39_ok,g53_ok,trivial⟩ trivial) (trE_ok (ks:=[]) Tryz.func20 (by kernel_rfl)) fun a=>g54_run a
@[simp] theorem g54_app (y0 y1 y2 y3 y4 y5 y6 y7 y8 y9 y10 y11):g54_r [(.agg [(.vs (rows y0)),(.vs (rows y1)),(.int .i64 y2),(.bool y3),(.int .i64 y4),(.int .i64 y5),(.int .i64 y6),(.int .i64 y7),(.int .i64 y8),(.int .i64 y9),(.vs (rows y10)),(.vs (rows y11))])] = (impl_ValidPager (((y0,y1,y2,y3),(y4,y5,y6,y7),y8,y9,y10,y11))).map g54_O :=
  RlO_app (enc:=g54_E) (by intro a b h; simp [g54_E,Prod.ext_iff] at h ⊢; simp [h]) (((y0,y1,y2,y3),(y4,y5,y6,y7),y8,y9,y10,y11))
/-! slices.Clone[[]string,string] -/
theorem g11_fn:FnOk Tryz.prog 104 (cloneTF 9 [(.str [])] 1 16):=trF_ok (ks:=[]) Tryz.func104 (by kernel_rfl)
noncomputable def slices_Clone_string_string_ (l:List (Str)):Option (List (Str)):=appL 16 [] l
noncomputable def g11_r:Rule:=RlO (fun (l:List (Str))=>[TV.vs (rows l)]) (fun l=>slices_Clone_string_string_ l) (fun r=>(ow 0 r.length,[ob 1 r]))
theorem g11_ok:RuleOk Tryz.prog 104 g11_r:=clone_ok rfl g11_fn
@[simp] theorem g11_app (y0):g11_r [TV.vs (rows y0)] = (slices_Clone_string_string_ y0).map (fun r=>(ow 0 r.length,[ob 1 r])):=RlO_app (enc:=fun (y0:List (Str))=>[TV.vs (rows y0)]) (g:=fun y0=>slices_Clone_string_string_ y0) (by intro a b h; simpa using h) y0
/-! slices.Clone[[]impl.Put,impl.Put] -/
theorem g8_fn:FnOk Tryz.prog 105 (cloneTF 96 [(.int .i64 0),(.str [])] 2 24):=trF_ok (ks:=[]) Tryz.func105 (by kernel_rfl)
noncomputable def slices_Clone_impl_Put_impl_Put_ (l:List (Int × Str)):Option (List (Int × Str)):=appL 24 [] l
noncomputable def g8_r:Rule:=RlO (fun (l:List (Int × Str))=>[TV.vs (rows l)]) (fun l=>slices_Clone_impl_Put_impl_Put_ l) (fun r=>(ow 0 r.length,[ob 2 r]))
theorem g8_ok:RuleOk Tryz.prog 105 g8_r:=clone_ok rfl g8_fn
@[simp] theorem g8_app (y0):g8_r [TV.vs (rows y0)] = (slices_Clone_impl_Put_impl_Put_ y0).map (fun r=>(ow 0 r.length,[ob 2 r])):=RlO_app (enc:=fun (y0:List (Int × Str))=>[TV.vs (rows y0)]) (g:=fun y0=>slices_Clone_impl_Put_impl_Put_ y0) (by intro a b h; simpa using h) y0
/-! (impl.Disk).clone -/
def g55_tf:TFn:=⟨(sq [bx 1 0,oo 2 (.alloc [.nils,.nils,(.int .i64 0),(.bool false)])] [1,2] (.seq (.draw [([],fa 3 0 1),([0],ld 4 3),([0,1],ca 5 104 [.t 4]),([],fa 6 1 1),([3],ld 7 6),([0,1,2,3,4],ca 8 105 [.t 7]),([],fa 9 2 1),([6],ld 10 9),([],fa 11 3 1),([8],ld 12 11)] [oo 13 (.build [.nils,.nils,(.int .i64 0),(.bool false)] [(0,1,(.t 5)),(1,1,(.t 8)),(2,1,(.t 10)),(3,1,(.t 12))]),⟨none,none,(.store 4 (.t 2) (.t 13))⟩]) (.keep (kp [(2,0)] [(1,2),(2,1),(3,1)] 0) .ret))),[.cell 2 (some 4)]⟩
abbrev g55_S:=Sys.on [(104,g11_r),(105,g8_r)] []
def impl_Disk_clone (a_d:K0):Option (K0):=(slices_Clone_string_string_ a_d.1).bind fun r1=>(slices_Clone_impl_Put_impl_Put_ a_d.2.1).bind fun r2=>some ((r1,r2,a_d.2.2.1,a_d.2.2.2))
@[simp] def g55_O:(K0) → TV × List Blk:=fun r=>((.agg [(ow 1 r.1.length),(ow 2 r.2.1.length),(.int .i64 r.2.2.1),(.bool r.2.2.2)]),[(.live 4 [[(ow 1 r.1.length),(ow 2 r.2.1.length),(.int .i64 r.2.2.1),(.bool r.2.2.2)]]),(ob 1 r.1),(ob 2 r.2.1)])
def g55_E (a:K0):List TV:=[(.agg [(.vs (rows a.1)),(.vs (rows a.2.1)),(.int .i64 a.2.2.1),(.bool a.2.2.2)])]
theorem g55_run (a_d:K0) :callFn (X g55_S) g55_tf (g55_E a_d) [] = (impl_Disk_clone a_d).map g55_O:=by
  rw [callFn_eq]
  simp (maxSteps:=2000000) (maxDischargeDepth:=8) -implicitDefEqProofs [g55_tf,impl_Disk_clone,g55_E] <;> (try simp only [map_to_bind,some_elim,g55_O])
def g55_r:Rule:=RlO g55_E (fun a=>impl_Disk_clone a) g55_O
theorem g55_ok:RuleOk Tryz.prog 84 g55_r:=ok_rlo (S:=g55_S) (tf:=g55_tf) (SysOk.on ⟨g11_ok,g8_ok,trivial⟩ trivial) (trE_ok (ks:=[[10]]) Tryz.func84 (by kernel_rfl)) fun a=>g55_run a
@[simp] theorem g55_app (y0 y1 y2 y3):g55_r [(.agg [(.vs (rows y0)),(.vs (rows y1)),(.int .i64 y2),(.bool y3)])] = (impl_Disk_clone ((y0,y1,y2,y3))).map g55_O :=
  RlO_app (enc:=g55_E) (by intro a b h; simp [g55_E,Prod.ext_iff] at h ⊢; simp [h]) ((y0,y1,y2,y3))
/-! slices.Clone[[]impl.Page,impl.Page] -/
theorem g7_fn:FnOk Tryz.prog 85 (cloneTF 81 [(.int .i64 0),(.str [])] 2 24):=trF_ok (ks:=[]) Tryz.func85 (by kernel_rfl)
noncomputable def slices_Clone_impl_Page_impl_Page_ (l:List (Int × Str)):Option (List (Int × Str)):=appL 24 [] l
noncomputable def g7_r:Rule:=RlO (fun (l:List (Int × Str))=>[TV.vs (rows l)]) (fun l=>slices_Clone_impl_Page_impl_Page_ l) (fun r=>(ow 0 r.length,[ob 2 r]))
theorem g7_ok:RuleOk Tryz.prog 85 g7_r:=clone_ok rfl g7_fn
@[simp] theorem g7_app (y0):g7_r [TV.vs (rows y0)] = (slices_Clone_impl_Page_impl_Page_ y0).map (fun r=>(ow 0 r.length,[ob 2 r])):=RlO_app (enc:=fun (y0:List (Int × Str))=>[TV.vs (rows y0)]) (g:=fun y0=>slices_Clone_impl_Page_impl_Page_ y0) (by intro a b h; simpa using h) y0
/-! (impl.Pager).clone -/
def g47_tf:TFn:=⟨(sq [bx 1 0,oo 2 (.alloc [.nils,.nils,(.int .i64 0),(.bool false),(.int .i64 0),(.int .i64 0),(.int .i64 0),(.int .i64 0),(.int .i64 0),(.int .i64 0),.nils,.nils])] [1,2] (sq [fa 3 0 1,ln 4 4 3,ca 5 84 [.t 4],fa 6 0 1,⟨none,none,(.store 4 (.t 6) (.t 5))⟩] [1,2] (sq [fa 7 10 1,ld 8 7,ca 9 85 [.t 8],fa 10 10 1,⟨none,none,(.store 1 (.t 10) (.t 9))⟩] [1,2] (sq [fa 11 11 1,ld 12 11,ca 13 85 [.t 12],fa 14 11 1,⟨none,none,(.store 1 (.t 14) (.t 13))⟩] [1,2] (.seq (.ops [ln 15 12 1,⟨none,none,(.store 12 (.t 2) (.t 15))⟩]) (.keep (kp [(2,0)] [(1,2),(3,1),(4,1),(5,1),(6,1)] 0) .ret)))))),[.cell 2 (some 12)]⟩
abbrev g47_S:=Sys.on [(84,g55_r),(85,g7_r)] []
def impl_Pager_clone (a_p:K1):Option (K1):=(impl_Disk_clone a_p.1).bind fun r1=>(slices_Clone_impl_Page_impl_Page_ a_p.2.2.2.2.1).bind fun r2=>(slices_Clone_impl_Page_impl_Page_ a_p.2.2.2.2.2).bind fun r3=>some ((r1,a_p.2.1,a_p.2.2.1,a_p.2.2.2.1,r2,r3))
@[simp] def g47_O:(K1) → TV × List Blk:=fun r=>((.agg [(ow 1 r.1.1.length),(ow 2 r.1.2.1.length),(.int .i64 r.1.2.2.1),(.bool r.1.2.2.2),(.int .i64 r.2.1.1),(.int .i64 r.2.1.2.1),(.int .i64 r.2.1.2.2.1),(.int .i64 r.2.1.2.2.2),(.int .i64 r.2.2.1),(.int .i64 r.2.2.2.1),(ow 3 r.2.2.2.2.1.length),(ow 4 r.2.2.2.2.2.length)]),[(.live 12 [[(ow 1 r.1.1.length),(ow 2 r.1.2.1.length),(.int .i64 r.1.2.2.1),(.bool r.1.2.2.2),(.int .i64 r.2.1.1),(.int .i64 r.2.1.2.1),(.int .i64 r.2.1.2.2.1),(.int .i64 r.2.1.2.2.2),(.int .i64 r.2.2.1),(.int .i64 r.2.2.2.1),(ow 3 r.2.2.2.2.1.length),(ow 4 r.2.2.2.2.2.length)]]),(ob 1 r.1.1),(ob 2 r.1.2.1),(ob 2 r.2.2.2.2.1),(ob 2 r.2.2.2.2.2)])
def g47_E (a:K1):List TV:=[(.agg [(.vs (rows a.1.1)),(.vs (rows a.1.2.1)),(.int .i64 a.1.2.2.1),(.bool a.1.2.2.2),(.int .i64 a.2.1.1),(.int .i64 a.2.1.2.1),(.int .i64 a.2.1.2.2.1),(.int .i64 a.2.1.2.2.2),(.int .i64 a.2.2.1),(.int .i64 a.2.2.2.1),(.vs (rows a.2.2.2.2.1)),(.vs (rows a.2.2.2.2.2))])]
theorem g47_run (a_p:K1) :callFn (X g47_S) g47_tf (g47_E a_p) [] = (impl_Pager_clone a_p).map g47_O:=by
  rw [callFn_eq]
  simp (maxSteps:=2000000) (maxDischargeDepth:=8) -implicitDefEqProofs [g47_tf,impl_Pager_clone,g47_E] <;> (try simp only [map_to_bind,some_elim,g47_O])
def g47_r:Rule:=RlO g47_E (fun a=>impl_Pager_clone a) g47_O
theorem g47_ok:RuleOk Tryz.prog 52 g47_r:=ok_rlo (S:=g47_S) (tf:=g47_tf) (SysOk.on ⟨g55_ok,g7_ok,trivial⟩ trivial) (trE_ok (ks:=[]) Tryz.func52 (by kernel_rfl)) fun a=>g47_run a
@[simp] theorem g47_app (y0 y1 y2 y3 y4 y5 y6 y7 y8 y9 y10 y11):g47_r [(.agg [(.vs (rows y0)),(.vs (rows y1)),(.int .i64 y2),(.bool y3),(.int .i64 y4),(.int .i64 y5),(.int .i64 y6),(.int .i64 y7),(.int .i64 y8),(.int .i64 y9),(.vs (rows y10)),(.vs (rows y11))])] = (impl_Pager_clone (((y0,y1,y2,y3),(y4,y5,y6,y7),y8,y9,y10,y11))).map g47_O :=
  RlO_app (enc:=g47_E) (by intro a b h; simp [g47_E,Prod.ext_iff] at h ⊢; simp [h]) (((y0,y1,y2,y3),(y4,y5,y6,y7),y8,y9,y10,y11))
/-! (*impl.Disk).power -/
def g23_tf:TFn:=⟨(sq [mk 2 (ki 0)] [0] (.seq (sq [mo 3 0,nk 4 3,fa 5 3 4,ld 6 5,mo 7 6,⟨(some 8),(some (7,false)),(.mv (.t 0))⟩,⟨(some 9),(some (7,false)),(.nilchk (.t 8))⟩,⟨(some 10),(some (7,false)),(.faddr 2 (.t 9))⟩,⟨(some 11),(some (7,false)),(.load none (.t 10))⟩,⟨(some 12),(some (7,false)),(.bin .num .eql (.t 11) (ki 0))⟩,pk 13 (.t 7) (kb true) (.t 12)] [0,13] (.cond (.t 13) (sq [mo 14 0,nk 15 14,fa 16 3 15,⟨none,none,(.store 1 (.t 16) (kb true))⟩] [] (.seq (.ops [mk 2 (ki 13)]) (.keep (kp [(2,0)] [(0,2),(1,1),(2,1),(3,1),(4,1)] 1) .ret))) .skip)) (.trim [0] (.seq (sq [mo 17 0,nk 18 17,fa 19 2 18,ld 20 19,bn 21 .gtr (.t 20) (ki 0)] [0,21] (.cond (.t 21) (.after (.ops [mo 22 0,nk 23 22,fa 24 2 23,ld 25 24,bn 26 .sub (.t 25) (ki 1),nk 27 22,fa 28 2 27,⟨none,none,(.store 1 (.t 28) (.t 26))⟩]) (kp [] [(0,2),(1,1),(2,1),(3,1),(4,1)] 1)) (.keep (kp [] [(0,2),(1,1),(2,1),(3,1),(4,1)] 1) .skip))) (.trim [] (.seq (.ops [mk 2 (ki 0)]) (.keep (kp [(2,0)] [(0,2),(1,1),(2,1),(3,1),(4,1)] 1) .ret))))))),[.t 2]⟩
abbrev g23_S:=Sys.on [] []
def impl_Disk_power_o19 (a1:K1):Option (K1 × Int):=if a1.1.2.2.2 = true then some (((a1.1.1,a1.1.2.1,a1.1.2.2.1,true),a1.2.1,a1.2.2.1,a1.2.2.2.1,a1.2.2.2.2.1,a1.2.2.2.2.2),13) else if a1.1.2.2.1 = 0 then some (((a1.1.1,a1.1.2.1,a1.1.2.2.1,true),a1.2.1,a1.2.2.1,a1.2.2.2.1,a1.2.2.2.2.1,a1.2.2.2.2.2),13) else if a1.1.2.2.1 > 0 then some (((a1.1.1,a1.1.2.1,(IntKind.i64.wrap (a1.1.2.2.1 - 1)),a1.1.2.2.2),a1.2.1,a1.2.2.1,a1.2.2.2.1,a1.2.2.2.2.1,a1.2.2.2.2.2),0) else some (a1,0)
@[simp] def g23_O:(K1 × Int) → TV × List Blk:=fun r=>((.int .i64 r.2),[(.live 12 [[(ow 1 r.1.1.1.length),(ow 2 r.1.1.2.1.length),(.int .i64 r.1.1.2.2.1),(.bool r.1.1.2.2.2),(.int .i64 r.1.2.1.1),(.int .i64 r.1.2.1.2.1),(.int .i64 r.1.2.1.2.2.1),(.int .i64 r.1.2.1.2.2.2),(.int .i64 r.1.2.2.1),(.int .i64 r.1.2.2.2.1),(ow 3 r.1.2.2.2.2.1.length),(ow 4 r.1.2.2.2.2.2.length)]]),(ob 1 r.1.1.1),(ob 2 r.1.1.2.1),(ob 2 r.1.2.2.2.2.1),(ob 2 r.1.2.2.2.2.2)])
abbrev g23_T:=K1
def g23_E (a:g23_T):List TV:=[(.ptr 0 0 0)]
def g23_B (a:g23_T):List Blk:=[(.live 12 [[(ow 1 a.1.1.length),(ow 2 a.1.2.1.length),(.int .i64 a.1.2.2.1),(.bool a.1.2.2.2),(.int .i64 a.2.1.1),(.int .i64 a.2.1.2.1),(.int .i64 a.2.1.2.2.1),(.int .i64 a.2.1.2.2.2),(.int .i64 a.2.2.1),(.int .i64 a.2.2.2.1),(ow 3 a.2.2.2.2.1.length),(ow 4 a.2.2.2.2.2.length)]]),(ob 1 a.1.1),(ob 2 a.1.2.1),(ob 2 a.2.2.2.2.1),(ob 2 a.2.2.2.2.2)]
theorem g23_run (a1:K1) :callFn (X g23_S) g23_tf (g23_E a1) (g23_B a1) = (impl_Disk_power_o19 a1).map g23_O:=by
  rw [callFn_eq]
  simp (maxSteps:=2000000) (maxDischargeDepth:=8) -implicitDefEqProofs [g23_tf,impl_Disk_power_o19,g23_E,g23_B] <;> (try simp only [map_to_bind,some_elim,g23_O])
def g23_r:MRule:=RmO g23_E g23_B (fun a=>impl_Disk_power_o19 a) g23_O
theorem g23_ok:MRuleOk Tryz.prog 86 1 g23_r:=ok_rmo (S:=g23_S) (tf:=g23_tf) (SysOk.on trivial trivial) (trE_ok (ks:=[]) Tryz.func86 (by kernel_rfl)) (by rfl) (fun _=>by simp [g23_B]) (fun _=>by simp) fun a=>g23_run a
@[simp] theorem g23_app (y0:List Str)(y1:List (Int × Str))(y2 y3 y4 y5 y6 y7 y8 y9)(y10:List (Int × Str))(y11:List (Int × Str)){n1:Nat}(h1:n1 = y0.length){n2:Nat}(h2:n2 = y1.length){n3:Nat}(h3:n3 = y10.length){n4:Nat}(h4:n4 = y11.length):g23_r [(.ptr 0 0 0)] [(.live 12 [[(ow 1 n1),(ow 2 n2),(.int .i64 y2),(.bool y3),(.int .i64 y4),(.int .i64 y5),(.int .i64 y6),(.int .i64 y7),(.int .i64 y8),(.int .i64 y9),(ow 3 n3),(ow 4 n4)]]),(ob 1 y0),(ob 2 y1),(ob 2 y10),(ob 2 y11)] = (impl_Disk_power_o19 (((y0,y1,y2,y3),(y4,y5,y6,y7),y8,y9,y10,y11))).map g23_O:=by
  subst h1 h2 h3 h4
  exact RmO_app (enc:=g23_E) (encB:=g23_B) (by intro a b h h2; simp [g23_E,g23_B,Prod.ext_iff] at h h2 ⊢; simp [h,h2]) (((y0,y1,y2,y3),(y4,y5,y6,y7),y8,y9,y10,y11))
/-! (*impl.Disk).barrier -/
def g17l1_cb:TC:=(sq [bn 17 .lss (.t 16) (.t 15)] [0,14,15,16,17] (.seq (.cond (.t 17) .skip (.keep (kp [(0,0)] [(0,2),(1,1),(2,1),(3,1),(4,1)] 1) (.exit 0))) (.trim [0,14,15,16] (.seq (.block 1 (sq [ia 18 2 14 16,ln 19 2 18,oo 5 (.alloc [(.int .i64 0),(.str [])]),⟨none,none,(.store 2 (.t 5) (.t 19))⟩] [0,5,14,15,16] (.draw [([],mo 20 0),([0],nk 21 20),([0,1],fa 22 0 21),([0,1,2],ld 23 22),([],fa 24 0 5),([4],ld 25 24),([],fa 26 1 5),([6],ld 27 26)] [ia 28 1 23 25,⟨none,none,(.store 1 (.t 28) (.t 27))⟩]))) (.trim [0,14,15,16] (.after (.ops [bn 29 .add (.t 16) (ki 1),mo 16 29]) (kp [(0,0),(14,1),(15,0),(16,0)] [(0,2),(1,1),(2,1),(3,1),(4,1)] 1)))))))
def g17l1_c:TC:=.loop [0,14,15,16] g17l1_cb
def g17_tf:TFn:=⟨(sq [mk 2 (ki 0)] [0] (.seq (sq [mo 6 0,oo 7 (.callM 86 0 [0,1,2,3,4] [.t 6]),mo 3 7] [0,3] (sq [mo 8 3,bn 9 .neq (.t 8) (ki 0)] [0,3,9] (.cond (.t 9) (.seq (.ops [mo 10 3,mo 2 10]) (.keep (kp [(2,0)] [(0,2),(5,1),(6,1),(7,1),(8,1)] 1) .ret)) .skip))) (.trim [0] (.seq (sq [mo 11 0,nk 12 11,fa 13 1 12,ld 14 13,le 15 14,mk 16 (ki 0)] [0,14,15,16] (.block 0 (.keep (kp [(0,0),(14,1),(15,0),(16,0)] [(0,2),(5,1),(6,1),(7,1),(8,1)] 1) g17l1_c))) (.trim [0] (sq [mo 30 0,nk 31 30,fa 32 1 31,⟨none,none,(.store 1 (.t 32) (.c .nils))⟩] [] (.seq (.ops [mk 2 (ki 0)]) (.keep (kp [(2,0)] [(0,2),(1,1),(1000,1),(3,1),(4,1)] 1) .ret)))))))),[.t 2]⟩
abbrev g17_S:=Sys.on [] [((86,0),(1,g23_r))]
@[reducible,simp] def g17l1_F:(K1) → Out:=(fun t=>(.ext 0,[(0,(.ptr 0 0 0))],[(.live 12 [[(ow 1 t.1.1.length),(ow 2 t.1.2.1.length),(.int .i64 t.1.2.2.1),(.bool t.1.2.2.2),(.int .i64 t.2.1.1),(.int .i64 t.2.1.2.1),(.int .i64 t.2.1.2.2.1),(.int .i64 t.2.1.2.2.2),(.int .i64 t.2.2.1),(.int .i64 t.2.2.2.1),(ow 3 t.2.2.2.2.1.length),(ow 4 t.2.2.2.2.2.length)]]),(ob 1 t.1.1),(ob 2 t.1.2.1),(ob 2 t.2.2.2.2.1),(ob 2 t.2.2.2.2.2)]))
def impl_Disk_barrier_o19_l1_b (v3:Int) (v2:K1) (v4:Int):Option ((K1 × Int) ⊕ (K1)):=if v4 < v3 then if 0 ≤ v4 ∧ v4 < ((v2.1.2.1.length:Nat):Int) then (v2.1.2.1[(v4).toNat]?).bind fun x5=>if 0 ≤ x5.1 ∧ x5.1 < ((v2.1.1.length:Nat):Int) then (v2.1.1[(x5.1).toNat]?).bind fun x6=>some (.inl ((((v2.1.1.set (x5.1).toNat x5.2),v2.1.2.1,v2.1.2.2.1,v2.1.2.2.2),v2.2.1,v2.2.2.1,v2.2.2.2.1,v2.2.2.2.2.1,v2.2.2.2.2.2),(IntKind.i64.wrap (v4 + 1)))) else none else none else some (.inr v2)
theorem g17l1_b_eq  (v3:Int) (v2:K1) (v4:Int):X g17_S g17l1_cb (keepEnv [0,14,15,16] [(0,(.ptr 0 0 0)),(14,(ow 2 v2.1.2.1.length)),(15,(.int .i64 v3)),(16,(.int .i64 v4))]) [(.live 12 [[(ow 1 v2.1.1.length),(ow 2 v2.1.2.1.length),(.int .i64 v2.1.2.2.1),(.bool v2.1.2.2.2),(.int .i64 v2.2.1.1),(.int .i64 v2.2.1.2.1),(.int .i64 v2.2.1.2.2.1),(.int .i64 v2.2.1.2.2.2),(.int .i64 v2.2.2.1),(.int .i64 v2.2.2.2.1),(ow 3 v2.2.2.2.2.1.length),(ow 4 v2.2.2.2.2.2.length)]]),(ob 1 v2.1.1),(ob 2 v2.1.2.1),(ob 2 v2.2.2.2.2.1),(ob 2 v2.2.2.2.2.2)] = (impl_Disk_barrier_o19_l1_b v3 v2 v4).map (Sum.elim (fun s=>(TX.nrm,[(0,(.ptr 0 0 0)),(14,(ow 2 s.1.1.2.1.length)),(15,(.int .i64 v3)),(16,(.int .i64 s.2))],[(.live 12 [[(ow 1 s.1.1.1.length),(ow 2 s.1.1.2.1.length),(.int .i64 s.1.1.2.2.1),(.bool s.1.1.2.2.2),(.int .i64 s.1.2.1.1),(.int .i64 s.1.2.1.2.1),(.int .i64 s.1.2.1.2.2.1),(.int .i64 s.1.2.1.2.2.2),(.int .i64 s.1.2.2.1),(.int .i64 s.1.2.2.2.1),(ow 3 s.1.2.2.2.2.1.length),(ow 4 s.1.2.2.2.2.2.length)]]),(ob 1 s.1.1.1),(ob 2 s.1.1.2.1),(ob 2 s.1.2.2.2.2.1),(ob 2 s.1.2.2.2.2.2)])) g17l1_F):=by
  simp (maxSteps:=2000000) (maxDischargeDepth:=8) -implicitDefEqProofs [g17l1_cb,impl_Disk_barrier_o19_l1_b] <;> (try simp only [map_to_bind,some_elim,g17l1_F])
def impl_Disk_barrier_o19_l1 (v3:Int) (s:K1 × Int):Option (K1):=loopO (fun s=>impl_Disk_barrier_o19_l1_b v3 s.1 s.2) s
@[simp] theorem g17l1_eq (y0:List Str)(y1:List (Int × Str))(y2 y3 y4 y5 y6 y7 y8 y9)(y10:List (Int × Str))(y11:List (Int × Str))(y12 y13){n1:Nat}(h1:n1 = y1.length){n2:Nat}(h2:n2 = y0.length){n3:Nat}(h3:n3 = y1.length){n4:Nat}(h4:n4 = y10.length){n5:Nat}(h5:n5 = y11.length):X g17_S g17l1_c [(0,(.ptr 0 0 0)),(14,(ow 2 n1)),(15,(.int .i64 y12)),(16,(.int .i64 y13))] [(.live 12 [[(ow 1 n2),(ow 2 n3),(.int .i64 y2),(.bool y3),(.int .i64 y4),(.int .i64 y5),(.int .i64 y6),(.int .i64 y7),(.int .i64 y8),(.int .i64 y9),(ow 3 n4),(ow 4 n5)]]),(ob 1 y0),(ob 2 y1),(ob 2 y10),(ob 2 y11)] = (impl_Disk_barrier_o19_l1 y12 (((y0,y1,y2,y3),(y4,y5,y6,y7),y8,y9,y10,y11),y13)).map g17l1_F:=by
  subst h1 h2 h3 h4 h5
  exact loop_X _ _ _ _ (by intro r; first | (simp; done) | (rcases r with r | r <;> simp; done) | (rcases r with r | r | r <;> simp; done) | (rcases r with r | r | r | r <;> simp)) (fun s=>g17l1_b_eq  y12 s.1 s.2) (((y0,y1,y2,y3),(y4,y5,y6,y7),y8,y9,y10,y11),y13)
def impl_Disk_barrier_o19 (a1:K1):Option (K1 × Int):=(impl_Disk_power_o19 a1).bind fun r1=>if ¬(r1.2 = 0) then some (r1.1,r1.2) else (impl_Disk_barrier_o19_l1 (((r1.1.1.2.1.length:Nat):Int)) ((r1.1,0))).bind fun r7=>some (((r7.1.1,([]:List (Int × Str)),r7.1.2.2.1,r7.1.2.2.2),r7.2.1,r7.2.2.1,r7.2.2.2.1,r7.2.2.2.2.1,r7.2.2.2.2.2),0)
@[simp] def g17_O:(K1 × Int) → TV × List Blk:=fun r=>((.int .i64 r.2),[(.live 12 [[(ow 1 r.1.1.1.length),(ow 2 r.1.1.2.1.length),(.int .i64 r.1.1.2.2.1),(.bool r.1.1.2.2.2),(.int .i64 r.1.2.1.1),(.int .i64 r.1.2.1.2.1),(.int .i64 r.1.2.1.2.2.1),(.int .i64 r.1.2.1.2.2.2),(.int .i64 r.1.2.2.1),(.int .i64 r.1.2.2.2.1),(ow 3 r.1.2.2.2.2.1.length),(ow 4 r.1.2.2.2.2.2.length)]]),(ob 1 r.1.1.1),(ob 2 r.1.1.2.1),(ob 2 r.1.2.2.2.2.1),(ob 2 r.1.2.2.2.2.2)])
abbrev g17_T:=K1
def g17_E (a:g17_T):List TV:=[(.ptr 0 0 0)]
def g17_B (a:g17_T):List Blk:=[(.live 12 [[(ow 1 a.1.1.length),(ow 2 a.1.2.1.length),(.int .i64 a.1.2.2.1),(.bool a.1.2.2.2),(.int .i64 a.2.1.1),(.int .i64 a.2.1.2.1),(.int .i64 a.2.1.2.2.1),(.int .i64 a.2.1.2.2.2),(.int .i64 a.2.2.1),(.int .i64 a.2.2.2.1),(ow 3 a.2.2.2.2.1.length),(ow 4 a.2.2.2.2.2.length)]]),(ob 1 a.1.1),(ob 2 a.1.2.1),(ob 2 a.2.2.2.2.1),(ob 2 a.2.2.2.2.2)]
theorem g17_run (a1:K1) :callFn (X g17_S) g17_tf (g17_E a1) (g17_B a1) = (impl_Disk_barrier_o19 a1).map g17_O:=by
  rw [callFn_eq]
  simp (maxSteps:=2000000) (maxDischargeDepth:=8) -implicitDefEqProofs [g17_tf,impl_Disk_barrier_o19,g17_E,g17_B] <;> (try simp only [map_to_bind,some_elim,g17_O])
def g17_r:MRule:=RmO g17_E g17_B (fun a=>impl_Disk_barrier_o19 a) g17_O
theorem g17_ok:MRuleOk Tryz.prog 54 1 g17_r:=ok_rmo (S:=g17_S) (tf:=g17_tf) (SysOk.on trivial ⟨g23_ok,trivial⟩) (trE_ok (ks:=[[0,14,15,16],[8]]) Tryz.func54 (by kernel_rfl)) (by rfl) (fun _=>by simp [g17_B]) (fun _=>by simp) fun a=>g17_run a
@[simp] theorem g17_app (y0:List Str)(y1:List (Int × Str))(y2 y3 y4 y5 y6 y7 y8 y9)(y10:List (Int × Str))(y11:List (Int × Str)){n1:Nat}(h1:n1 = y0.length){n2:Nat}(h2:n2 = y1.length){n3:Nat}(h3:n3 = y10.length){n4:Nat}(h4:n4 = y11.length):g17_r [(.ptr 0 0 0)] [(.live 12 [[(ow 1 n1),(ow 2 n2),(.int .i64 y2),(.bool y3),(.int .i64 y4),(.int .i64 y5),(.int .i64 y6),(.int .i64 y7),(.int .i64 y8),(.int .i64 y9),(ow 3 n3),(ow 4 n4)]]),(ob 1 y0),(ob 2 y1),(ob 2 y10),(ob 2 y11)] = (impl_Disk_barrier_o19 (((y0,y1,y2,y3),(y4,y5,y6,y7),y8,y9,y10,y11))).map g17_O:=by
  subst h1 h2 h3 h4
  exact RmO_app (enc:=g17_E) (encB:=g17_B) (by intro a b h h2; simp [g17_E,g17_B,Prod.ext_iff] at h h2 ⊢; simp [h,h2]) (((y0,y1,y2,y3),(y4,y5,y6,y7),y8,y9,y10,y11))
/-! (*impl.Disk).power -/
def g24_tf:TFn:=⟨(sq [mk 2 (ki 0)] [0] (.seq (sq [mo 3 0,nk 4 3,fa 5 3 4,ld 6 5,mo 7 6,⟨(some 8),(some (7,false)),(.mv (.t 0))⟩,⟨(some 9),(some (7,false)),(.nilchk (.t 8))⟩,⟨(some 10),(some (7,false)),(.faddr 2 (.t 9))⟩,⟨(some 11),(some (7,false)),(.load none (.t 10))⟩,⟨(some 12),(some (7,false)),(.bin .num .eql (.t 11) (ki 0))⟩,pk 13 (.t 7) (kb true) (.t 12)] [0,13] (.cond (.t 13) (sq [mo 14 0,nk 15 14,fa 16 3 15,⟨none,none,(.store 1 (.t 16) (kb true))⟩] [] (.seq (.ops [mk 2 (ki 13)]) (.keep (kp [(2,0)] [(0,2),(1,1),(2,1),(3,1),(4,1)] 2) .ret))) .skip)) (.trim [0] (.seq (sq [mo 17 0,nk 18 17,fa 19 2 18,ld 20 19,bn 21 .gtr (.t 20) (ki 0)] [0,21] (.cond (.t 21) (.after (.ops [mo 22 0,nk 23 22,fa 24 2 23,ld 25 24,bn 26 .sub (.t 25) (ki 1),nk 27 22,fa 28 2 27,⟨none,none,(.store 1 (.t 28) (.t 26))⟩]) (kp [] [(0,2),(1,1),(2,1),(3,1),(4,1)] 2)) (.keep (kp [] [(0,2),(1,1),(2,1),(3,1),(4,1)] 2) .skip))) (.trim [] (.seq (.ops [mk 2 (ki 0)]) (.keep (kp [(2,0)] [(0,2),(1,1),(2,1),(3,1),(4,1)] 2) .ret))))))),[.t 2]⟩
abbrev g24_S:=Sys.on [] []
def impl_Disk_power_o36 (a1:K1):Option (List Str × (List (Int × Str)) × Int × Bool × Int × Int × Int × Int × Int × Int × (List (Int × Str)) × (List (Int × Str)) × Int):=if a1.1.2.2.2 = true then some (a1.1.1,a1.1.2.1,a1.1.2.2.1,true,a1.2.1.1,a1.2.1.2.1,a1.2.1.2.2.1,a1.2.1.2.2.2,a1.2.2.1,a1.2.2.2.1,a1.2.2.2.2.2,a1.2.2.2.2.1,13) else if a1.1.2.2.1 = 0 then some (a1.1.1,a1.1.2.1,a1.1.2.2.1,true,a1.2.1.1,a1.2.1.2.1,a1.2.1.2.2.1,a1.2.1.2.2.2,a1.2.2.1,a1.2.2.2.1,a1.2.2.2.2.2,a1.2.2.2.2.1,13) else if a1.1.2.2.1 > 0 then some (a1.1.1,a1.1.2.1,(IntKind.i64.wrap (a1.1.2.2.1 - 1)),a1.1.2.2.2,a1.2.1.1,a1.2.1.2.1,a1.2.1.2.2.1,a1.2.1.2.2.2,a1.2.2.1,a1.2.2.2.1,a1.2.2.2.2.2,a1.2.2.2.2.1,0) else some (a1.1.1,a1.1.2.1,a1.1.2.2.1,a1.1.2.2.2,a1.2.1.1,a1.2.1.2.1,a1.2.1.2.2.1,a1.2.1.2.2.2,a1.2.2.1,a1.2.2.2.1,a1.2.2.2.2.2,a1.2.2.2.2.1,0)
@[simp] def g24_O:(List Str × (List (Int × Str)) × Int × Bool × Int × Int × Int × Int × Int × Int × (List (Int × Str)) × (List (Int × Str)) × Int) → TV × List Blk:=fun r=>((.int .i64 r.2.2.2.2.2.2.2.2.2.2.2.2),[(.live 12 [[(ow 2 r.1.length),(ow 3 r.2.1.length),(.int .i64 r.2.2.1),(.bool r.2.2.2.1),(.int .i64 r.2.2.2.2.1),(.int .i64 r.2.2.2.2.2.1),(.int .i64 r.2.2.2.2.2.2.1),(.int .i64 r.2.2.2.2.2.2.2.1),(.int .i64 r.2.2.2.2.2.2.2.2.1),(.int .i64 r.2.2.2.2.2.2.2.2.2.1),(ow 1 r.2.2.2.2.2.2.2.2.2.2.2.1.length),(ow 4 r.2.2.2.2.2.2.2.2.2.2.1.length)]]),(ob 2 r.2.2.2.2.2.2.2.2.2.2.2.1),(ob 1 r.1),(ob 2 r.2.1),(ob 2 r.2.2.2.2.2.2.2.2.2.2.1)])
abbrev g24_T:=K1
def g24_E (a:g24_T):List TV:=[(.ptr 0 0 0)]
def g24_B (a:g24_T):List Blk:=[(.live 12 [[(ow 2 a.1.1.length),(ow 3 a.1.2.1.length),(.int .i64 a.1.2.2.1),(.bool a.1.2.2.2),(.int .i64 a.2.1.1),(.int .i64 a.2.1.2.1),(.int .i64 a.2.1.2.2.1),(.int .i64 a.2.1.2.2.2),(.int .i64 a.2.2.1),(.int .i64 a.2.2.2.1),(ow 1 a.2.2.2.2.1.length),(ow 4 a.2.2.2.2.2.length)]]),(ob 2 a.2.2.2.2.1),(ob 1 a.1.1),(ob 2 a.1.2.1),(ob 2 a.2.2.2.2.2)]
theorem g24_run (a1:K1) :callFn (X g24_S) g24_tf (g24_E a1) (g24_B a1) = (impl_Disk_power_o36 a1).map g24_O:=by
  rw [callFn_eq]
  simp (maxSteps:=2000000) (maxDischargeDepth:=8) -implicitDefEqProofs [g24_tf,impl_Disk_power_o36,g24_E,g24_B] <;> (try simp only [map_to_bind,some_elim,g24_O])
def g24_r:MRule:=RmO g24_E g24_B (fun a=>(impl_Disk_power_o36 a).bind fun r=>if r.2.2.2.2.2.2.2.2.2.2.2.1.length = a.2.2.2.2.1.length then some (r.1,r.2.1,r.2.2.1,r.2.2.2.1,r.2.2.2.2.1,r.2.2.2.2.2.1,r.2.2.2.2.2.2.1,r.2.2.2.2.2.2.2.1,r.2.2.2.2.2.2.2.2.1,r.2.2.2.2.2.2.2.2.2.1,r.2.2.2.2.2.2.2.2.2.2.1,(fixLen a.2.2.2.2.1 r.2.2.2.2.2.2.2.2.2.2.2.1),r.2.2.2.2.2.2.2.2.2.2.2.2) else none) g24_O
theorem g24_ok0:MRuleOk Tryz.prog 86 2 (RmO g24_E g24_B (fun a=>impl_Disk_power_o36 a) g24_O):=ok_rmo (S:=g24_S) (tf:=g24_tf) (SysOk.on trivial trivial) (trE_ok (ks:=[]) Tryz.func86 (by kernel_rfl)) (by rfl) (fun _=>by simp [g24_B]) (fun _=>by simp) fun a=>g24_run a
theorem g24_ok:MRuleOk Tryz.prog 86 2 g24_r:=g24_ok0.weak fun a r hr=>by
  simp only [Option.bind_eq_some_iff] at hr
  obtain ⟨x,h1,h2⟩:=hr
  split at h2
  · rename_i hc
    simp only [Option.some.injEq] at h2
    rw [h1,← h2]
    simp [fixLen,hc]
  · cases h2
@[simp] theorem g24_app (y0:List Str)(y1:List (Int × Str))(y2 y3 y4 y5 y6 y7 y8 y9)(y10:List (Int × Str))(y11:List (Int × Str)){n1:Nat}(h1:n1 = y0.length){n2:Nat}(h2:n2 = y1.length){n3:Nat}(h3:n3 = y10.length){n4:Nat}(h4:n4 = y11.length):g24_r [(.ptr 0 0 0)] [(.live 12 [[(ow 2 n1),(ow 3 n2),(.int .i64 y2),(.bool y3),(.int .i64 y4),(.int .i64 y5),(.int .i64 y6),(.int .i64 y7),(.int .i64 y8),(.int .i64 y9),(ow 1 n3),(ow 4 n4)]]),(ob 2 y10),(ob 1 y0),(ob 2 y1),(ob 2 y11)] = ((impl_Disk_power_o36 (((y0,y1,y2,y3),(y4,y5,y6,y7),y8,y9,y10,y11))).bind fun r=>if r.2.2.2.2.2.2.2.2.2.2.2.1.length = y10.length then some (r.1,r.2.1,r.2.2.1,r.2.2.2.1,r.2.2.2.2.1,r.2.2.2.2.2.1,r.2.2.2.2.2.2.1,r.2.2.2.2.2.2.2.1,r.2.2.2.2.2.2.2.2.1,r.2.2.2.2.2.2.2.2.2.1,r.2.2.2.2.2.2.2.2.2.2.1,(fixLen y10 r.2.2.2.2.2.2.2.2.2.2.2.1),r.2.2.2.2.2.2.2.2.2.2.2.2) else none).map g24_O:=by
  subst h1 h2 h3 h4
  exact RmO_app (enc:=g24_E) (encB:=g24_B) (by intro a b h h2; simp [g24_E,g24_B,Prod.ext_iff] at h h2 ⊢; simp [h,h2]) (((y0,y1,y2,y3),(y4,y5,y6,y7),y8,y9,y10,y11))
/-! (*impl.Disk).write -/
def g25_tf:TFn:=⟨(sq [mk 6 (ki 0)] [0,1,2] (.seq (sq [mo 8 0,oo 9 (.callM 86 1 [0,1,2,3,4] [.t 8]),mo 7 9] [0,1,2,7] (sq [mo 10 7,bn 11 .neq (.t 10) (ki 0)] [0,1,2,7,11] (.cond (.t 11) (.seq (.ops [mo 12 7,mo 6 12]) (.keep (kp [(6,0)] [(0,2),(1,1),(5,1),(6,1),(7,1)] 2) .ret)) .skip))) (.trim [0,1,2] (.seq (sq [mo 13 0,nk 14 13,fa 15 1 14,ld 16 15,le 17 16,bn 18 .geq (.t 17) (ki 600)] [0,1,2,18] (.cond (.t 18) (.seq (.ops [mk 6 (ki 5)]) (.keep (kp [(6,0)] [(0,2),(1,1),(5,1),(6,1),(7,1)] 2) .ret)) .skip)) (.trim [0,1,2] (sq [mo 19 0,mo 20 0,nk 21 20,fa 22 1 21,ld 23 22,mo 24 1,mo 25 2,oo 26 (.build [(.int .i64 0),(.str [])] [(0,1,(.t 24)),(1,1,(.t 25))]),oo 27 (.bslice [(.int .i64 0),(.str [])] 1 [(0,(.t 26))]),oo 28 (.append 96 2 24 (.t 23) (.t 27)),nk 29 19,fa 30 1 29,⟨none,none,(.store 1 (.t 30) (.t 28))⟩] [] (.seq (.ops [mk 6 (ki 0)]) (.keep (kp [(6,0)] [(0,2),(1,1),(5,1),(9,1),(7,1)] 2) .ret)))))))),[.t 6]⟩
abbrev g25_S:=Sys.on [] [((86,1),(2,g24_r))]
def impl_Disk_write_o87 (a1:K1) (a2:Int) (a3:Str):Option (List Str × (List (Int × Str)) × Int × Bool × Int × Int × Int × Int × Int × Int × (List (Int × Str)) × (List (Int × Str)) × Int):=(impl_Disk_power_o36 a1).bind fun r1=>if r1.2.2.2.2.2.2.2.2.2.2.2.1.length = a1.2.2.2.2.1.length then if ¬(r1.2.2.2.2.2.2.2.2.2.2.2.2 = 0) then some (r1.1,r1.2.1,r1.2.2.1,r1.2.2.2.1,r1.2.2.2.2.1,r1.2.2.2.2.2.1,r1.2.2.2.2.2.2.1,r1.2.2.2.2.2.2.2.1,r1.2.2.2.2.2.2.2.2.1,r1.2.2.2.2.2.2.2.2.2.1,r1.2.2.2.2.2.2.2.2.2.2.1,(fixLen a1.2.2.2.2.1 r1.2.2.2.2.2.2.2.2.2.2.2.1),r1.2.2.2.2.2.2.2.2.2.2.2.2) else if ((r1.2.1.length:Nat):Int) ≥ 600 then some (r1.1,r1.2.1,r1.2.2.1,r1.2.2.2.1,r1.2.2.2.2.1,r1.2.2.2.2.2.1,r1.2.2.2.2.2.2.1,r1.2.2.2.2.2.2.2.1,r1.2.2.2.2.2.2.2.2.1,r1.2.2.2.2.2.2.2.2.2.1,r1.2.2.2.2.2.2.2.2.2.2.1,(fixLen a1.2.2.2.2.1 r1.2.2.2.2.2.2.2.2.2.2.2.1),5) else (appL 24 r1.2.1 ((lit [(a2,a3)]:List (Int × Str)))).bind fun l2=>some (r1.1,l2,r1.2.2.1,r1.2.2.2.1,r1.2.2.2.2.1,r1.2.2.2.2.2.1,r1.2.2.2.2.2.2.1,r1.2.2.2.2.2.2.2.1,r1.2.2.2.2.2.2.2.2.1,r1.2.2.2.2.2.2.2.2.2.1,r1.2.2.2.2.2.2.2.2.2.2.1,(fixLen a1.2.2.2.2.1 r1.2.2.2.2.2.2.2.2.2.2.2.1),0) else none
@[simp] def g25_O:(List Str × (List (Int × Str)) × Int × Bool × Int × Int × Int × Int × Int × Int × (List (Int × Str)) × (List (Int × Str)) × Int) → TV × List Blk:=fun r=>((.int .i64 r.2.2.2.2.2.2.2.2.2.2.2.2),[(.live 12 [[(ow 2 r.1.length),(ow 3 r.2.1.length),(.int .i64 r.2.2.1),(.bool r.2.2.2.1),(.int .i64 r.2.2.2.2.1),(.int .i64 r.2.2.2.2.2.1),(.int .i64 r.2.2.2.2.2.2.1),(.int .i64 r.2.2.2.2.2.2.2.1),(.int .i64 r.2.2.2.2.2.2.2.2.1),(.int .i64 r.2.2.2.2.2.2.2.2.2.1),(ow 1 r.2.2.2.2.2.2.2.2.2.2.2.1.length),(ow 4 r.2.2.2.2.2.2.2.2.2.2.1.length)]]),(ob 2 r.2.2.2.2.2.2.2.2.2.2.2.1),(ob 1 r.1),(ob 2 r.2.1),(ob 2 r.2.2.2.2.2.2.2.2.2.2.1)])
abbrev g25_T:=K1 × Int × Str
def g25_E (a:g25_T):List TV:=[(.ptr 0 0 0),(.int .i64 a.2.1),(.str a.2.2)]
def g25_B (a:g25_T):List Blk:=[(.live 12 [[(ow 2 a.1.1.1.length),(ow 3 a.1.1.2.1.length),(.int .i64 a.1.1.2.2.1),(.bool a.1.1.2.2.2),(.int .i64 a.1.2.1.1),(.int .i64 a.1.2.1.2.1),(.int .i64 a.1.2.1.2.2.1),(.int .i64 a.1.2.1.2.2.2),(.int .i64 a.1.2.2.1),(.int .i64 a.1.2.2.2.1),(ow 1 a.1.2.2.2.2.1.length),(ow 4 a.1.2.2.2.2.2.length)]]),(ob 2 a.1.2.2.2.2.1),(ob 1 a.1.1.1),(ob 2 a.1.1.2.1),(ob 2 a.1.2.2.2.2.2)]
theorem g25_run (a1:K1) (a2:Int) (a3:Str) :callFn (X g25_S) g25_tf (g25_E (a1,a2,a3)) (g25_B (a1,a2,a3)) = (impl_Disk_write_o87 a1 a2 a3).map g25_O:=by
  rw [callFn_eq]
  simp (maxSteps:=2000000) (maxDischargeDepth:=8) -implicitDefEqProofs [g25_tf,impl_Disk_write_o87,g25_E,g25_B,bslV_lit (α:=Int × Str) (zs:=[(.int .i64 0),(.str [])])] <;> (try simp only [map_to_bind,some_elim,g25_O])
def g25_r:MRule:=RmO g25_E g25_B (fun a=>(impl_Disk_write_o87 a.1 a.2.1 a.2.2).bind fun r=>if r.2.2.2.2.2.2.2.2.2.2.2.1.length = a.1.2.2.2.2.1.length then some (r.1,r.2.1,r.2.2.1,r.2.2.2.1,r.2.2.2.2.1,r.2.2.2.2.2.1,r.2.2.2.2.2.2.1,r.2.2.2.2.2.2.2.1,r.2.2.2.2.2.2.2.2.1,r.2.2.2.2.2.2.2.2.2.1,r.2.2.2.2.2.2.2.2.2.2.1,(fixLen a.1.2.2.2.2.1 r.2.2.2.2.2.2.2.2.2.2.2.1),r.2.2.2.2.2.2.2.2.2.2.2.2) else none) g25_O
theorem g25_ok0:MRuleOk Tryz.prog 87 2 (RmO g25_E g25_B (fun a=>impl_Disk_write_o87 a.1 a.2.1 a.2.2) g25_O):=ok_rmo (S:=g25_S) (tf:=g25_tf) (SysOk.on trivial ⟨g24_ok,trivial⟩) (trE_ok (ks:=[]) Tryz.func87 (by kernel_rfl)) (by rfl) (fun _=>by simp [g25_B]) (fun _=>by simp) fun a=>g25_run a.1 a.2.1 a.2.2
theorem g25_ok:MRuleOk Tryz.prog 87 2 g25_r:=g25_ok0.weak fun a r hr=>by
  simp only [Option.bind_eq_some_iff] at hr
  obtain ⟨x,h1,h2⟩:=hr
  split at h2
  · rename_i hc
    simp only [Option.some.injEq] at h2
    rw [h1,← h2]
    simp [fixLen,hc]
  · cases h2
@[simp] theorem g25_app (y0:List Str)(y1:List (Int × Str))(y2 y3 y4 y5 y6 y7 y8 y9)(y10:List (Int × Str))(y11:List (Int × Str))(y12 y13){n1:Nat}(h1:n1 = y0.length){n2:Nat}(h2:n2 = y1.length){n3:Nat}(h3:n3 = y10.length){n4:Nat}(h4:n4 = y11.length):g25_r [(.ptr 0 0 0),(.int .i64 y12),(.str y13)] [(.live 12 [[(ow 2 n1),(ow 3 n2),(.int .i64 y2),(.bool y3),(.int .i64 y4),(.int .i64 y5),(.int .i64 y6),(.int .i64 y7),(.int .i64 y8),(.int .i64 y9),(ow 1 n3),(ow 4 n4)]]),(ob 2 y10),(ob 1 y0),(ob 2 y1),(ob 2 y11)] = ((impl_Disk_write_o87 (((y0,y1,y2,y3),(y4,y5,y6,y7),y8,y9,y10,y11)) y12 y13).bind fun r=>if r.2.2.2.2.2.2.2.2.2.2.2.1.length = y10.length then some (r.1,r.2.1,r.2.2.1,r.2.2.2.1,r.2.2.2.2.1,r.2.2.2.2.2.1,r.2.2.2.2.2.2.1,r.2.2.2.2.2.2.2.1,r.2.2.2.2.2.2.2.2.1,r.2.2.2.2.2.2.2.2.2.1,r.2.2.2.2.2.2.2.2.2.2.1,(fixLen y10 r.2.2.2.2.2.2.2.2.2.2.2.1),r.2.2.2.2.2.2.2.2.2.2.2.2) else none).map g25_O:=by
  subst h1 h2 h3 h4
  exact RmO_app (enc:=g25_E) (encB:=g25_B) (by intro a b h h2; simp [g25_E,g25_B,Prod.ext_iff] at h h2 ⊢; simp [h,h2]) (((y0,y1,y2,y3),(y4,y5,y6,y7),y8,y9,y10,y11),y12,y13)
/-! (*impl.Disk).writeAll -/
def g15l1_cb:TC:=(sq [bn 11 .lss (.t 10) (.t 9)] [0,8,9,10,11] (.seq (.cond (.t 11) .skip (.keep (kp [] [(0,2),(1,1),(2,1),(3,1),(4,1)] 2) (.exit 0))) (.trim [0,8,9,10] (.seq (.block 1 (sq [ia 12 2 8 10,ln 13 2 12,oo 6 (.alloc [(.int .i64 0),(.str [])]),⟨none,none,(.store 2 (.t 6) (.t 13))⟩] [0,6,8,9,10] (sq [mo 14 0,fa 15 0 6,ld 16 15,fa 17 1 6,ld 18 17,oo 19 (.callM 87 0 [0,1,2,3,4] [.t 14,.t 16,.t 18]),mo 7 19] [0,7,8,9,10] (sq [mo 20 7,bn 21 .neq (.t 20) (ki 0)] [0,7,8,9,10,21] (.cond (.t 21) (.seq (.ops [mo 22 7,mo 4 22]) (.keep (kp [(4,0)] [(0,2),(1,1),(6,1),(7,1),(8,1)] 2) .ret)) .skip))))) (.trim [0,8,9,10] (.after (.ops [bn 23 .add (.t 10) (ki 1),mo 10 23]) (kp [(0,0),(8,0),(9,0),(10,0)] [(0,2),(1,1),(6,1),(7,1),(8,1)] 2)))))))
def g15l1_c:TC:=.loop [0,8,9,10] g15l1_cb
def g15_tf:TFn:=⟨(sq [mk 4 (ki 0)] [0,1] (.seq (sq [mo 8 1,le 9 8,mk 10 (ki 0)] [0,8,9,10] (.block 0 (.keep (kp [(0,0),(8,0),(9,0),(10,0)] [(0,2),(1,1),(2,1),(3,1),(4,1)] 2) g15l1_c))) (.trim [] (.seq (.ops [mk 4 (ki 0)]) (.keep (kp [(4,0)] [(0,2),(1,1),(2,1),(3,1),(4,1)] 2) .ret))))),[.t 4]⟩
abbrev g15_S:=Sys.on [] [((87,0),(2,g25_r))]
@[reducible,simp] def g15l1_F:((List Str × (List (Int × Str)) × Int × Bool × Int × Int × Int × Int × Int × Int × (List (Int × Str)) × (List (Int × Str))) ⊕ (List Str × (List (Int × Str)) × Int × Bool × Int × Int × Int × Int × Int × Int × (List (Int × Str)) × (List (Int × Str)) × Int)) → Out:=(Sum.elim (fun t=>(.ext 0,[],[(.live 12 [[(ow 2 t.1.length),(ow 3 t.2.1.length),(.int .i64 t.2.2.1),(.bool t.2.2.2.1),(.int .i64 t.2.2.2.2.1),(.int .i64 t.2.2.2.2.2.1),(.int .i64 t.2.2.2.2.2.2.1),(.int .i64 t.2.2.2.2.2.2.2.1),(.int .i64 t.2.2.2.2.2.2.2.2.1),(.int .i64 t.2.2.2.2.2.2.2.2.2.1),(ow 1 t.2.2.2.2.2.2.2.2.2.2.2.length),(ow 4 t.2.2.2.2.2.2.2.2.2.2.1.length)]]),(ob 2 t.2.2.2.2.2.2.2.2.2.2.2),(ob 1 t.1),(ob 2 t.2.1),(ob 2 t.2.2.2.2.2.2.2.2.2.2.1)])) (fun t=>(.ret,[(4,(.int .i64 t.2.2.2.2.2.2.2.2.2.2.2.2))],[(.live 12 [[(ow 2 t.1.length),(ow 3 t.2.1.length),(.int .i64 t.2.2.1),(.bool t.2.2.2.1),(.int .i64 t.2.2.2.2.1),(.int .i64 t.2.2.2.2.2.1),(.int .i64 t.2.2.2.2.2.2.1),(.int .i64 t.2.2.2.2.2.2.2.1),(.int .i64 t.2.2.2.2.2.2.2.2.1),(.int .i64 t.2.2.2.2.2.2.2.2.2.1),(ow 1 t.2.2.2.2.2.2.2.2.2.2.2.1.length),(ow 4 t.2.2.2.2.2.2.2.2.2.2.1.length)]]),(ob 2 t.2.2.2.2.2.2.2.2.2.2.2.1),(ob 1 t.1),(ob 2 t.2.1),(ob 2 t.2.2.2.2.2.2.2.2.2.2.1)])))
def impl_Disk_writeAll_oba_l1_b (v13:Int) (v1:List Str) (v2:List (Int × Str)) (v3:Int) (v4:Bool) (v5:Int) (v6:Int) (v7:Int) (v8:Int) (v9:Int) (v10:Int) (v11:List (Int × Str)) (v12:List (Int × Str)) (v14:Int):Option ((List Str × (List (Int × Str)) × Int × Bool × Int × Int × Int × Int × Int × Int × (List (Int × Str)) × (List (Int × Str)) × Int) ⊕ ((List Str × (List (Int × Str)) × Int × Bool × Int × Int × Int × Int × Int × Int × (List (Int × Str)) × (List (Int × Str))) ⊕ (List Str × (List (Int × Str)) × Int × Bool × Int × Int × Int × Int × Int × Int × (List (Int × Str)) × (List (Int × Str)) × Int))):=if v14 < v13 then if 0 ≤ v14 ∧ v14 < ((v12.length:Nat):Int) then (v12[(v14).toNat]?).bind fun x15=>(impl_Disk_write_o87 (((v1,v2,v3,v4),(v5,v6,v7,v8),v9,v10,v12,v11)) x15.1 x15.2).bind fun r16=>if r16.2.2.2.2.2.2.2.2.2.2.2.1.length = v12.length then if ¬(r16.2.2.2.2.2.2.2.2.2.2.2.2 = 0) then some (.inr (.inr (r16.1,r16.2.1,r16.2.2.1,r16.2.2.2.1,r16.2.2.2.2.1,r16.2.2.2.2.2.1,r16.2.2.2.2.2.2.1,r16.2.2.2.2.2.2.2.1,r16.2.2.2.2.2.2.2.2.1,r16.2.2.2.2.2.2.2.2.2.1,r16.2.2.2.2.2.2.2.2.2.2.1,(fixLen v12 r16.2.2.2.2.2.2.2.2.2.2.2.1),r16.2.2.2.2.2.2.2.2.2.2.2.2))) else some (.inl (r16.1,r16.2.1,r16.2.2.1,r16.2.2.2.1,r16.2.2.2.2.1,r16.2.2.2.2.2.1,r16.2.2.2.2.2.2.1,r16.2.2.2.2.2.2.2.1,r16.2.2.2.2.2.2.2.2.1,r16.2.2.2.2.2.2.2.2.2.1,r16.2.2.2.2.2.2.2.2.2.2.1,(fixLen v12 r16.2.2.2.2.2.2.2.2.2.2.2.1),(IntKind.i64.wrap (v14 + 1)))) else none else none else some (.inr (.inl (v1,v2,v3,v4,v5,v6,v7,v8,v9,v10,v11,v12)))
theorem g15l1_b_eq  (v13:Int) (v1:List Str) (v2:List (Int × Str)) (v3:Int) (v4:Bool) (v5:Int) (v6:Int) (v7:Int) (v8:Int) (v9:Int) (v10:Int) (v11:List (Int × Str)) (v12:List (Int × Str)) (v14:Int):X g15_S g15l1_cb (keepEnv [0,8,9,10] [(0,(.ptr 0 0 0)),(8,(ow 1 v12.length)),(9,(.int .i64 v13)),(10,(.int .i64 v14))]) [(.live 12 [[(ow 2 v1.length),(ow 3 v2.length),(.int .i64 v3),(.bool v4),(.int .i64 v5),(.int .i64 v6),(.int .i64 v7),(.int .i64 v8),(.int .i64 v9),(.int .i64 v10),(ow 1 v12.length),(ow 4 v11.length)]]),(ob 2 v12),(ob 1 v1),(ob 2 v2),(ob 2 v11)] = (impl_Disk_writeAll_oba_l1_b v13 v1 v2 v3 v4 v5 v6 v7 v8 v9 v10 v11 v12 v14).map (Sum.elim (fun s=>(TX.nrm,[(0,(.ptr 0 0 0)),(8,(ow 1 s.2.2.2.2.2.2.2.2.2.2.2.1.length)),(9,(.int .i64 v13)),(10,(.int .i64 s.2.2.2.2.2.2.2.2.2.2.2.2))],[(.live 12 [[(ow 2 s.1.length),(ow 3 s.2.1.length),(.int .i64 s.2.2.1),(.bool s.2.2.2.1),(.int .i64 s.2.2.2.2.1),(.int .i64 s.2.2.2.2.2.1),(.int .i64 s.2.2.2.2.2.2.1),(.int .i64 s.2.2.2.2.2.2.2.1),(.int .i64 s.2.2.2.2.2.2.2.2.1),(.int .i64 s.2.2.2.2.2.2.2.2.2.1),(ow 1 s.2.2.2.2.2.2.2.2.2.2.2.1.length),(ow 4 s.2.2.2.2.2.2.2.2.2.2.1.length)]]),(ob 2 s.2.2.2.2.2.2.2.2.2.2.2.1),(ob 1 s.1),(ob 2 s.2.1),(ob 2 s.2.2.2.2.2.2.2.2.2.2.1)])) g15l1_F):=by
  simp (maxSteps:=2000000) (maxDischargeDepth:=8) -implicitDefEqProofs [g15l1_cb,impl_Disk_writeAll_oba_l1_b] <;> (try simp only [map_to_bind,some_elim,g15l1_F])
def impl_Disk_writeAll_oba_l1 (v13:Int) (s:List Str × (List (Int × Str)) × Int × Bool × Int × Int × Int × Int × Int × Int × (List (Int × Str)) × (List (Int × Str)) × Int):Option ((List Str × (List (Int × Str)) × Int × Bool × Int × Int × Int × Int × Int × Int × (List (Int × Str)) × (List (Int × Str))) ⊕ (List Str × (List (Int × Str)) × Int × Bool × Int × Int × Int × Int × Int × Int × (List (Int × Str)) × (List (Int × Str)) × Int)):=loopO (fun s=>impl_Disk_writeAll_oba_l1_b v13 s.1 s.2.1 s.2.2.1 s.2.2.2.1 s.2.2.2.2.1 s.2.2.2.2.2.1 s.2.2.2.2.2.2.1 s.2.2.2.2.2.2.2.1 s.2.2.2.2.2.2.2.2.1 s.2.2.2.2.2.2.2.2.2.1 s.2.2.2.2.2.2.2.2.2.2.1 s.2.2.2.2.2.2.2.2.2.2.2.1 s.2.2.2.2.2.2.2.2.2.2.2.2) s
@[simp] theorem g15l1_eq (y0:List Str)(y1:List (Int × Str))(y2 y3 y4 y5 y6 y7 y8 y9)(y10:List (Int × Str))(y11:List (Int × Str))(y12 y13){n1:Nat}(h1:n1 = y11.length){n2:Nat}(h2:n2 = y0.length){n3:Nat}(h3:n3 = y1.length){n4:Nat}(h4:n4 = y11.length){n5:Nat}(h5:n5 = y10.length):X g15_S g15l1_c [(0,(.ptr 0 0 0)),(8,(ow 1 n1)),(9,(.int .i64 y12)),(10,(.int .i64 y13))] [(.live 12 [[(ow 2 n2),(ow 3 n3),(.int .i64 y2),(.bool y3),(.int .i64 y4),(.int .i64 y5),(.int .i64 y6),(.int .i64 y7),(.int .i64 y8),(.int .i64 y9),(ow 1 n4),(ow 4 n5)]]),(ob 2 y11),(ob 1 y0),(ob 2 y1),(ob 2 y10)] = (impl_Disk_writeAll_oba_l1 y12 (y0,y1,y2,y3,y4,y5,y6,y7,y8,y9,y10,y11,y13)).map g15l1_F:=by
  subst h1 h2 h3 h4 h5
  exact loop_X _ _ _ _ (by intro r; first | (simp; done) | (rcases r with r | r <;> simp; done) | (rcases r with r | r | r <;> simp; done) | (rcases r with r | r | r | r <;> simp)) (fun s=>g15l1_b_eq  y12 s.1 s.2.1 s.2.2.1 s.2.2.2.1 s.2.2.2.2.1 s.2.2.2.2.2.1 s.2.2.2.2.2.2.1 s.2.2.2.2.2.2.2.1 s.2.2.2.2.2.2.2.2.1 s.2.2.2.2.2.2.2.2.2.1 s.2.2.2.2.2.2.2.2.2.2.1 s.2.2.2.2.2.2.2.2.2.2.2.1 s.2.2.2.2.2.2.2.2.2.2.2.2) (y0,y1,y2,y3,y4,y5,y6,y7,y8,y9,y10,y11,y13)
def impl_Disk_writeAll_oba (a1:K1):Option (List Str × (List (Int × Str)) × Int × Bool × Int × Int × Int × Int × Int × Int × (List (Int × Str)) × (List (Int × Str)) × Int):=(impl_Disk_writeAll_oba_l1 (((a1.2.2.2.2.1.length:Nat):Int)) ((a1.1.1,a1.1.2.1,a1.1.2.2.1,a1.1.2.2.2,a1.2.1.1,a1.2.1.2.1,a1.2.1.2.2.1,a1.2.1.2.2.2,a1.2.2.1,a1.2.2.2.1,a1.2.2.2.2.2,a1.2.2.2.2.1,0))).bind fun r17=>Sum.elim (fun u18=>some (u18.1,u18.2.1,u18.2.2.1,u18.2.2.2.1,u18.2.2.2.2.1,u18.2.2.2.2.2.1,u18.2.2.2.2.2.2.1,u18.2.2.2.2.2.2.2.1,u18.2.2.2.2.2.2.2.2.1,u18.2.2.2.2.2.2.2.2.2.1,u18.2.2.2.2.2.2.2.2.2.2.1,u18.2.2.2.2.2.2.2.2.2.2.2,0)) (fun u19=>some (u19.1,u19.2.1,u19.2.2.1,u19.2.2.2.1,u19.2.2.2.2.1,u19.2.2.2.2.2.1,u19.2.2.2.2.2.2.1,u19.2.2.2.2.2.2.2.1,u19.2.2.2.2.2.2.2.2.1,u19.2.2.2.2.2.2.2.2.2.1,u19.2.2.2.2.2.2.2.2.2.2.1,u19.2.2.2.2.2.2.2.2.2.2.2.1,u19.2.2.2.2.2.2.2.2.2.2.2.2)) r17
@[simp] def g15_O:(List Str × (List (Int × Str)) × Int × Bool × Int × Int × Int × Int × Int × Int × (List (Int × Str)) × (List (Int × Str)) × Int) → TV × List Blk:=fun r=>((.int .i64 r.2.2.2.2.2.2.2.2.2.2.2.2),[(.live 12 [[(ow 2 r.1.length),(ow 3 r.2.1.length),(.int .i64 r.2.2.1),(.bool r.2.2.2.1),(.int .i64 r.2.2.2.2.1),(.int .i64 r.2.2.2.2.2.1),(.int .i64 r.2.2.2.2.2.2.1),(.int .i64 r.2.2.2.2.2.2.2.1),(.int .i64 r.2.2.2.2.2.2.2.2.1),(.int .i64 r.2.2.2.2.2.2.2.2.2.1),(ow 1 r.2.2.2.2.2.2.2.2.2.2.2.1.length),(ow 4 r.2.2.2.2.2.2.2.2.2.2.1.length)]]),(ob 2 r.2.2.2.2.2.2.2.2.2.2.2.1),(ob 1 r.1),(ob 2 r.2.1),(ob 2 r.2.2.2.2.2.2.2.2.2.2.1)])
abbrev g15_T:=K1
def g15_E (a:g15_T):List TV:=[(.ptr 0 0 0),(ow 1 a.2.2.2.2.1.length)]
def g15_B (a:g15_T):List Blk:=[(.live 12 [[(ow 2 a.1.1.length),(ow 3 a.1.2.1.length),(.int .i64 a.1.2.2.1),(.bool a.1.2.2.2),(.int .i64 a.2.1.1),(.int .i64 a.2.1.2.1),(.int .i64 a.2.1.2.2.1),(.int .i64 a.2.1.2.2.2),(.int .i64 a.2.2.1),(.int .i64 a.2.2.2.1),(ow 1 a.2.2.2.2.1.length),(ow 4 a.2.2.2.2.2.length)]]),(ob 2 a.2.2.2.2.1),(ob 1 a.1.1),(ob 2 a.1.2.1),(ob 2 a.2.2.2.2.2)]
theorem g15_run (a1:K1) :callFn (X g15_S) g15_tf (g15_E a1) (g15_B a1) = (impl_Disk_writeAll_oba a1).map g15_O:=by
  rw [callFn_eq]
  simp (maxSteps:=2000000) (maxDischargeDepth:=8) -implicitDefEqProofs [g15_tf,impl_Disk_writeAll_oba,g15_E,g15_B] <;> (try simp only [map_to_bind,some_elim,g15_O])
def g15_r:MRule:=RmO g15_E g15_B (fun a=>(impl_Disk_writeAll_oba a).bind fun r=>if r.2.2.2.2.2.2.2.2.2.2.2.1.length = a.2.2.2.2.1.length then some (r.1,r.2.1,r.2.2.1,r.2.2.2.1,r.2.2.2.2.1,r.2.2.2.2.2.1,r.2.2.2.2.2.2.1,r.2.2.2.2.2.2.2.1,r.2.2.2.2.2.2.2.2.1,r.2.2.2.2.2.2.2.2.2.1,r.2.2.2.2.2.2.2.2.2.2.1,(fixLen a.2.2.2.2.1 r.2.2.2.2.2.2.2.2.2.2.2.1),r.2.2.2.2.2.2.2.2.2.2.2.2) else none) g15_O
theorem g15_ok0:MRuleOk Tryz.prog 56 2 (RmO g15_E g15_B (fun a=>impl_Disk_writeAll_oba a) g15_O):=ok_rmo (S:=g15_S) (tf:=g15_tf) (SysOk.on trivial ⟨g25_ok,trivial⟩) (trE_ok (ks:=[[0,8,9,10]]) Tryz.func56 (by kernel_rfl)) (by rfl) (fun _=>by simp [g15_B]) (fun _=>by simp) fun a=>g15_run a
theorem g15_ok:MRuleOk Tryz.prog 56 2 g15_r:=g15_ok0.weak fun a r hr=>by
  simp only [Option.bind_eq_some_iff] at hr
  obtain ⟨x,h1,h2⟩:=hr
  split at h2
  · rename_i hc
    simp only [Option.some.injEq] at h2
    rw [h1,← h2]
    simp [fixLen,hc]
  · cases h2
@[simp] theorem g15_app (y0:List Str)(y1:List (Int × Str))(y2 y3 y4 y5 y6 y7 y8 y9)(y10:List (Int × Str))(y11:List (Int × Str)){n1:Nat}(h1:n1 = y10.length){n2:Nat}(h2:n2 = y0.length){n3:Nat}(h3:n3 = y1.length){n4:Nat}(h4:n4 = y10.length){n5:Nat}(h5:n5 = y11.length):g15_r [(.ptr 0 0 0),(ow 1 n1)] [(.live 12 [[(ow 2 n2),(ow 3 n3),(.int .i64 y2),(.bool y3),(.int .i64 y4),(.int .i64 y5),(.int .i64 y6),(.int .i64 y7),(.int .i64 y8),(.int .i64 y9),(ow 1 n4),(ow 4 n5)]]),(ob 2 y10),(ob 1 y0),(ob 2 y1),(ob 2 y11)] = ((impl_Disk_writeAll_oba (((y0,y1,y2,y3),(y4,y5,y6,y7),y8,y9,y10,y11))).bind fun r=>if r.2.2.2.2.2.2.2.2.2.2.2.1.length = y10.length then some (r.1,r.2.1,r.2.2.1,r.2.2.2.1,r.2.2.2.2.1,r.2.2.2.2.2.1,r.2.2.2.2.2.2.1,r.2.2.2.2.2.2.2.1,r.2.2.2.2.2.2.2.2.1,r.2.2.2.2.2.2.2.2.2.1,r.2.2.2.2.2.2.2.2.2.2.1,(fixLen y10 r.2.2.2.2.2.2.2.2.2.2.2.1),r.2.2.2.2.2.2.2.2.2.2.2.2) else none).map g15_O:=by
  subst h1 h2 h3 h4 h5
  exact RmO_app (enc:=g15_E) (encB:=g15_B) (by intro a b h h2; simp [g15_E,g15_B,Prod.ext_iff] at h h2 ⊢; simp [h,h2]) (((y0,y1,y2,y3),(y4,y5,y6,y7),y8,y9,y10,y11))
/-! (*impl.Pager).checkpoint.1 -/
def g9_tf:TFn:=⟨(sq [mk 1 (ki 0)] [0] (.seq (.draw [([],ld 2 0),([0],nk 3 2),([0,1],fa 4 0 3),([],ld 5 0),([3],nk 6 5),([3,4],fa 7 10 6),([3,4,5],ld 8 7)] [oo 9 (.callM 56 0 [1,4,2,3,5] [.t 4,.t 8]),mo 1 9]) (.keep (kp [(1,0)] [(0,0),(1,2),(6,1),(7,1),(4,1),(8,1)] 2) .ret))),[.t 1]⟩
abbrev g9_S:=Sys.on [] [((56,0),(2,g15_r))]
def impl_Pager_checkpoint_c1_o60 (a1:K1):Option (K1 × Int):=(impl_Disk_writeAll_oba a1).bind fun r1=>if r1.2.2.2.2.2.2.2.2.2.2.2.1.length = a1.2.2.2.2.1.length then some (((r1.1,r1.2.1,r1.2.2.1,r1.2.2.2.1),(r1.2.2.2.2.1,r1.2.2.2.2.2.1,r1.2.2.2.2.2.2.1,r1.2.2.2.2.2.2.2.1),r1.2.2.2.2.2.2.2.2.1,r1.2.2.2.2.2.2.2.2.2.1,(fixLen a1.2.2.2.2.1 r1.2.2.2.2.2.2.2.2.2.2.2.1),r1.2.2.2.2.2.2.2.2.2.2.1),r1.2.2.2.2.2.2.2.2.2.2.2.2) else none
@[simp] def g9_O:(K1 × Int) → TV × List Blk:=fun r=>((.int .i64 r.2),[(.live 1 [[(.ptr 1 0 0)]]),(.live 12 [[(ow 2 r.1.1.1.length),(ow 3 r.1.1.2.1.length),(.int .i64 r.1.1.2.2.1),(.bool r.1.1.2.2.2),(.int .i64 r.1.2.1.1),(.int .i64 r.1.2.1.2.1),(.int .i64 r.1.2.1.2.2.1),(.int .i64 r.1.2.1.2.2.2),(.int .i64 r.1.2.2.1),(.int .i64 r.1.2.2.2.1),(ow 4 r.1.2.2.2.2.1.length),(ow 5 r.1.2.2.2.2.2.length)]]),(ob 1 r.1.1.1),(ob 2 r.1.1.2.1),(ob 2 r.1.2.2.2.2.1),(ob 2 r.1.2.2.2.2.2)])
abbrev g9_T:=K1
def g9_E (a:g9_T):List TV:=[(.ptr 0 0 0)]
def g9_B (a:g9_T):List Blk:=[(.live 1 [[(.ptr 1 0 0)]]),(.live 12 [[(ow 2 a.1.1.length),(ow 3 a.1.2.1.length),(.int .i64 a.1.2.2.1),(.bool a.1.2.2.2),(.int .i64 a.2.1.1),(.int .i64 a.2.1.2.1),(.int .i64 a.2.1.2.2.1),(.int .i64 a.2.1.2.2.2),(.int .i64 a.2.2.1),(.int .i64 a.2.2.2.1),(ow 4 a.2.2.2.2.1.length),(ow 5 a.2.2.2.2.2.length)]]),(ob 1 a.1.1),(ob 2 a.1.2.1),(ob 2 a.2.2.2.2.1),(ob 2 a.2.2.2.2.2)]
theorem g9_run (a1:K1) :callFn (X g9_S) g9_tf (g9_E a1) (g9_B a1) = (impl_Pager_checkpoint_c1_o60 a1).map g9_O:=by
  rw [callFn_eq]
  simp (maxSteps:=2000000) (maxDischargeDepth:=8) -implicitDefEqProofs [g9_tf,impl_Pager_checkpoint_c1_o60,g9_E,g9_B] <;> (try simp only [map_to_bind,some_elim,g9_O])
def g9_r:MRule:=RmO g9_E g9_B (fun a=>impl_Pager_checkpoint_c1_o60 a) g9_O
theorem g9_ok:MRuleOk Tryz.prog 55 2 g9_r:=ok_rmo (S:=g9_S) (tf:=g9_tf) (SysOk.on trivial ⟨g15_ok,trivial⟩) (trE_ok (ks:=[[7]]) Tryz.func55 (by kernel_rfl)) (by rfl) (fun _=>by simp [g9_B]) (fun _=>by simp) fun a=>g9_run a
@[simp] theorem g9_app (y0:List Str)(y1:List (Int × Str))(y2 y3 y4 y5 y6 y7 y8 y9)(y10:List (Int × Str))(y11:List (Int × Str)){n1:Nat}(h1:n1 = y0.length){n2:Nat}(h2:n2 = y1.length){n3:Nat}(h3:n3 = y10.length){n4:Nat}(h4:n4 = y11.length):g9_r [(.ptr 0 0 0)] [(.live 1 [[(.ptr 1 0 0)]]),(.live 12 [[(ow 2 n1),(ow 3 n2),(.int .i64 y2),(.bool y3),(.int .i64 y4),(.int .i64 y5),(.int .i64 y6),(.int .i64 y7),(.int .i64 y8),(.int .i64 y9),(ow 4 n3),(ow 5 n4)]]),(ob 1 y0),(ob 2 y1),(ob 2 y10),(ob 2 y11)] = (impl_Pager_checkpoint_c1_o60 (((y0,y1,y2,y3),(y4,y5,y6,y7),y8,y9,y10,y11))).map g9_O:=by
  subst h1 h2 h3 h4
  exact RmO_app (enc:=g9_E) (encB:=g9_B) (by intro a b h h2; simp [g9_E,g9_B,Prod.ext_iff] at h h2 ⊢; simp [h,h2]) (((y0,y1,y2,y3),(y4,y5,y6,y7),y8,y9,y10,y11))
/-! impl.putBytes -/
def g75l1_cb:TC:=(sq [bn 12 .lss (.t 11) (.t 10)] [0,5,10,11,12] (.seq (.cond (.t 12) .skip (.keep (kp [(5,1)] [(0,1)] 0) (.exit 0))) (.trim [0,5,10,11] (.seq (.block 1 (sq [mo 13 11,mo 6 13] [0,5,6,10,11] (.ops [mo 14 5,mo 15 6,mo 16 0,mo 17 6,bn 18 .mul (ki 8) (.t 17),bn 19 .shr (.t 16) (.t 18),oo 20 (.conv (.toInt .u8) (.t 19)),ia 21 1 14 15,⟨none,none,(.store 1 (.t 21) (.t 20))⟩]))) (.trim [0,5,10,11] (.after (.ops [bn 22 .add (.t 11) (ki 1),mo 11 22]) (kp [(0,0),(5,1),(10,0),(11,0)] [(0,1)] 0)))))))
def g75l1_c:TC:=.loop [0,5,10,11] g75l1_cb
def g75_tf:TFn:=⟨(sq [mk 4 (.c (.str []))] [0,1] (sq [mo 7 1,oo 8 (.mkslice 1 [(.int .u8 0)] (.t 7) (.t 7)),mo 5 8] [0,5] (.seq (sq [mo 9 5,le 10 9,mk 11 (ki 0)] [0,5,10,11] (.block 0 (.keep (kp [(0,0),(5,1),(10,0),(11,0)] [(0,1)] 0) g75l1_c))) (.trim [5] (.seq (.ops [mo 23 5,oo 24 (.conv .toStr (.t 23)),mo 4 24]) (.keep (kp [(4,0)] [] 0) .ret)))))),[.t 4]⟩
abbrev g75_S:=Sys.on [] []
@[reducible,simp] def g75l1_F:(List Bt) → Out:=(fun t=>(.ext 0,[(5,(ow 0 t.length))],[(ob 1 t)]))
def impl_putBytes_l1_b (v2:Int) (v4:Int) (v3:List Bt) (v5:Int):Option ((List Bt × Int) ⊕ (List Bt)):=if v5 < v4 then if (IntKind.i64.wrap (8 * v5)) < 0 then none else if 0 ≤ v5 ∧ v5 < ((v3.length:Nat):Int) then (v3[(v5).toNat]?).bind fun x6=>some (.inl ((v3.set (v5).toNat (⟨UInt8.ofNat ((IntKind.u8.wrap ((shrV .i64 v2 ((IntKind.i64.wrap (8 * v5))))))).toNat⟩:Bt)),(IntKind.i64.wrap (v5 + 1)))) else none else some (.inr v3)
theorem g75l1_b_eq  (v2:Int) (v4:Int) (v3:List Bt) (v5:Int):X g75_S g75l1_cb (keepEnv [0,5,10,11] [(0,(.int .i64 v2)),(5,(ow 0 v3.length)),(10,(.int .i64 v4)),(11,(.int .i64 v5))]) [(ob 1 v3)] = (impl_putBytes_l1_b v2 v4 v3 v5).map (Sum.elim (fun s=>(TX.nrm,[(0,(.int .i64 v2)),(5,(ow 0 s.1.length)),(10,(.int .i64 v4)),(11,(.int .i64 s.2))],[(ob 1 s.1)])) g75l1_F):=by
  simp (maxSteps:=2000000) (maxDischargeDepth:=8) -implicitDefEqProofs [g75l1_cb,impl_putBytes_l1_b,mksliceV_typed (z:=((⟨0⟩:Bt):Bt)) (zs:=[(.int .u8 0)]) rfl (by decide)] <;> (try simp only [map_to_bind,some_elim,g75l1_F])
def impl_putBytes_l1 (v2:Int) (v4:Int) (s:List Bt × Int):Option (List Bt):=loopO (fun s=>impl_putBytes_l1_b v2 v4 s.1 s.2) s
@[simp] theorem g75l1_eq (y0)(y1:List Bt)(y2 y3){n1:Nat}(h1:n1 = y1.length):X g75_S g75l1_c [(0,(.int .i64 y0)),(5,(ow 0 n1)),(10,(.int .i64 y2)),(11,(.int .i64 y3))] [(ob 1 y1)] = (impl_putBytes_l1 y0 y2 (y1,y3)).map g75l1_F:=by
  subst h1
  exact loop_X _ _ _ _ (by intro r; first | (simp; done) | (rcases r with r | r <;> simp; done) | (rcases r with r | r | r <;> simp; done) | (rcases r with r | r | r | r <;> simp)) (fun s=>g75l1_b_eq  y0 y2 s.1 s.2) (y1,y3)
def impl_putBytes (a_n:Int) (a_size:Int):Option (Str):=(mkL 1 a_size a_size ((⟨0⟩:Bt):Bt)).bind fun l1=>(impl_putBytes_l1 a_n (((l1.length:Nat):Int)) ((l1,0))).bind fun r7=>some ((r7.map Bt.v))
@[simp] def g75_O:Str → TV × List Blk:=fun r=>((.str r),[])
def g75_E (a:Int × Int):List TV:=[(.int .i64 a.1),(.int .i64 a.2)]
theorem g75_run (a_n:Int) (a_size:Int) :callFn (X g75_S) g75_tf (g75_E (a_n,a_size)) [] = (impl_putBytes a_n a_size).map g75_O:=by
  rw [callFn_eq]
  simp (maxSteps:=2000000) (maxDischargeDepth:=8) -implicitDefEqProofs [g75_tf,impl_putBytes,g75_E,mksliceV_typed (z:=((⟨0⟩:Bt):Bt)) (zs:=[(.int .u8 0)]) rfl (by decide)] <;> (try simp only [map_to_bind,some_elim,g75_O])
def g75_r:Rule:=RlO g75_E (fun a=>impl_putBytes a.1 a.2) g75_O
theorem g75_ok:RuleOk Tryz.prog 106 g75_r:=ok_rlo (S:=g75_S) (tf:=g75_tf) (SysOk.on trivial trivial) (trE_ok (ks:=[[0,5,10,11]]) Tryz.func106 (by kernel_rfl)) fun a=>g75_run a.1 a.2
@[simp] theorem g75_app (y0 y1):g75_r [(.int .i64 y0),(.int .i64 y1)] = (impl_putBytes y0 y1).map g75_O :=
  RlO_app (enc:=g75_E) (by intro a b h; simp [g75_E,Prod.ext_iff] at h ⊢; simp [h]) (y0,y1)
/-! strings.Repeat -/
noncomputable def strings_Repeat (s:Str) (n:Int):Option Str:=repS s n
noncomputable def strings_Repeat_r:Rule:=repS_r
@[simp] theorem strings_Repeat_app (y0 y1):strings_Repeat_r [.str y0,.int .i64 y1] = (strings_Repeat y0 y1).map (fun r=>(.str r,[])):=repS_app y0 y1
/-! impl.zeros -/
def g113_tf:TFn:=⟨(sq [mk 2 (.c (.str []))] [0] (.seq (.ops [mo 3 0,oo 4 (.call 110 [(.c (.str [0])),.t 3]),mo 2 4]) (.keep (kp [(2,0)] [] 0) .ret))),[.t 2]⟩
abbrev g113_S:=Sys.on [(110,strings_Repeat_r)] []
def impl_zeros (a_n:Int):Option (Str):=(strings_Repeat (([0]:Str)) a_n).bind fun r1=>some r1
@[simp] def g113_O:Str → TV × List Blk:=fun r=>((.str r),[])
def g113_E (a:Int):List TV:=[(.int .i64 a)]
theorem g113_run (a_n:Int) :callFn (X g113_S) g113_tf (g113_E a_n) [] = (impl_zeros a_n).map g113_O:=by
  rw [callFn_eq]
  simp (maxSteps:=2000000) (maxDischargeDepth:=8) -implicitDefEqProofs [g113_tf,impl_zeros,g113_E] <;> (try simp only [map_to_bind,some_elim,g113_O])
def g113_r:Rule:=RlO g113_E (fun a=>impl_zeros a) g113_O
theorem g113_ok:RuleOk Tryz.prog 91 g113_r:=ok_rlo (S:=g113_S) (tf:=g113_tf) (SysOk.on ⟨strings_Repeat_ok,trivial⟩ trivial) (trE_ok (ks:=[]) Tryz.func91 (by kernel_rfl)) fun a=>g113_run a
@[simp] theorem g113_app (y0):g113_r [(.int .i64 y0)] = (impl_zeros y0).map g113_O :=
  RlO_app (enc:=g113_E) (by intro a b h; simp [g113_E,Prod.ext_iff] at h ⊢; simp [h]) y0
/-! impl.padded -/
def g104_tf:TFn:=⟨(sq [mk 4 (.c (.str []))] [0,1] (.seq (.ops [mo 5 0,mo 6 1,mo 7 0,oo 8 (.len true (.t 7)),bn 9 .sub (.t 6) (.t 8),ca 10 91 [.t 9],oo 11 (.bin .str .add (.t 5) (.t 10)),mo 4 11]) (.keep (kp [(4,0)] [] 0) .ret))),[.t 4]⟩
abbrev g104_S:=Sys.on [(91,g113_r)] []
def impl_padded (a_s:Str) (a_n:Int):Option (Str):=(impl_zeros ((IntKind.i64.wrap (a_n - ((a_s.length:Int)))))).bind fun r1=>if a_s.length + r1.length ≤ 9223372036854775807 then some ((a_s ++ r1)) else none
@[simp] def g104_O:Str → TV × List Blk:=fun r=>((.str r),[])
def g104_E (a:Str × Int):List TV:=[(.str a.1),(.int .i64 a.2)]
theorem g104_run (a_s:Str) (a_n:Int) :callFn (X g104_S) g104_tf (g104_E (a_s,a_n)) [] = (impl_padded a_s a_n).map g104_O:=by
  rw [callFn_eq]
  simp (maxSteps:=2000000) (maxDischargeDepth:=8) -implicitDefEqProofs [g104_tf,impl_padded,g104_E] <;> (try simp only [map_to_bind,some_elim,g104_O])
def g104_r:Rule:=RlO g104_E (fun a=>impl_padded a.1 a.2) g104_O
theorem g104_ok:RuleOk Tryz.prog 107 g104_r:=ok_rlo (S:=g104_S) (tf:=g104_tf) (SysOk.on ⟨g113_ok,trivial⟩ trivial) (trE_ok (ks:=[]) Tryz.func107 (by kernel_rfl)) fun a=>g104_run a.1 a.2
@[simp] theorem g104_app (y0 y1):g104_r [(.str y0),(.int .i64 y1)] = (impl_padded y0 y1).map g104_O :=
  RlO_app (enc:=g104_E) (by intro a b h; simp [g104_E,Prod.ext_iff] at h ⊢; simp [h]) (y0,y1)
/-! (impl.Super).encode -/
def g41_tf:TFn:=⟨(sq [bx 1 0,mk 2 (.c (.str []))] [1] (.seq (.draw [([],ca 4 106 [ki 1,ki 1]),([0],oo 5 (.bin .str .add (.c (.str [65,82,82,83])) (.t 4))),([],fa 6 0 1),([2],ld 7 6),([0,2,3],ca 8 106 [.t 7,ki 2]),([0,1,2,3,4],oo 9 (.bin .str .add (.t 5) (.t 8))),([],fa 10 1 1),([6],ld 11 10),([0,2,3,4,6,7],ca 12 106 [.t 11,ki 2]),([0,1,2,3,4,5,6,7,8],oo 13 (.bin .str .add (.t 9) (.t 12))),([],fa 14 2 1),([10],ld 15 14),([0,2,3,4,6,7,8,10,11],ca 16 106 [.t 15,ki 8]),([0,1,2,3,4,5,6,7,8,9,10,11,12],oo 17 (.bin .str .add (.t 13) (.t 16))),([],fa 18 3 1),([14],ld 19 18),([0,2,3,4,6,7,8,10,11,12,14,15],ca 20 106 [.t 19,ki 8])] [oo 21 (.bin .str .add (.t 17) (.t 20)),mo 3 21]) (.trim [3] (sq [mo 22 3,ca 23 107 [.t 22,ki 32],mo 3 23] [3] (.seq (.ops [mo 24 3,mo 25 3,oo 26 (.bin .str .add (.t 24) (.t 25)),mo 2 26]) (.keep (kp [(2,0)] [] 0) .ret)))))),[.t 2]⟩
abbrev g41_S:=Sys.on [(106,g75_r),(107,g104_r)] []
def impl_Super_encode (a_s:Int × Int × Int × Int):Option (Str):=(impl_putBytes 1 1).bind fun r1=>if (([65,82,82,83]:Str)).length + r1.length ≤ 9223372036854775807 then (impl_putBytes a_s.1 2).bind fun r2=>if ((([65,82,82,83]:Str) ++ r1)).length + r2.length ≤ 9223372036854775807 then (impl_putBytes a_s.2.1 2).bind fun r3=>if (((([65,82,82,83]:Str) ++ r1) ++ r2)).length + r3.length ≤ 9223372036854775807 then (impl_putBytes a_s.2.2.1 8).bind fun r4=>if ((((([65,82,82,83]:Str) ++ r1) ++ r2) ++ r3)).length + r4.length ≤ 9223372036854775807 then (impl_putBytes a_s.2.2.2 8).bind fun r5=>if (((((([65,82,82,83]:Str) ++ r1) ++ r2) ++ r3) ++ r4)).length + r5.length ≤ 9223372036854775807 then (impl_padded ((((((([65,82,82,83]:Str) ++ r1) ++ r2) ++ r3) ++ r4) ++ r5)) 32).bind fun r6=>if r6.length + r6.length ≤ 9223372036854775807 then some ((r6 ++ r6)) else none else none else none else none else none else none
@[simp] def g41_O:Str → TV × List Blk:=fun r=>((.str r),[])
def g41_E (a:(Int × Int × Int × Int)):List TV:=[(.agg [(.int .i64 a.1),(.int .i64 a.2.1),(.int .i64 a.2.2.1),(.int .i64 a.2.2.2)])]
theorem g41_run (a_s:Int × Int × Int × Int) :callFn (X g41_S) g41_tf (g41_E a_s) [] = (impl_Super_encode a_s).map g41_O:=by
  rw [callFn_eq]
  simp (maxSteps:=2000000) (maxDischargeDepth:=8) -implicitDefEqProofs [g41_tf,impl_Super_encode,g41_E] <;> (try simp only [map_to_bind,some_elim,g41_O])
def g41_r:Rule:=RlO g41_E (fun a=>impl_Super_encode a) g41_O
theorem g41_ok:RuleOk Tryz.prog 88 g41_r:=ok_rlo (S:=g41_S) (tf:=g41_tf) (SysOk.on ⟨g75_ok,g104_ok,trivial⟩ trivial) (trE_ok (ks:=[[17]]) Tryz.func88 (by kernel_rfl)) fun a=>g41_run a
@[simp] theorem g41_app (y0 y1 y2 y3):g41_r [(.agg [(.int .i64 y0),(.int .i64 y1),(.int .i64 y2),(.int .i64 y3)])] = (impl_Super_encode ((y0,y1,y2,y3))).map g41_O :=
  RlO_app (enc:=g41_E) (by intro a b h; simp [g41_E,Prod.ext_iff] at h ⊢; simp [h]) ((y0,y1,y2,y3))
/-! (*impl.Disk).write -/
def g26_tf:TFn:=⟨(sq [mk 6 (ki 0)] [0,1,2] (.seq (sq [mo 8 0,oo 9 (.callM 86 0 [0,1,2,3,4] [.t 8]),mo 7 9] [0,1,2,7] (sq [mo 10 7,bn 11 .neq (.t 10) (ki 0)] [0,1,2,7,11] (.cond (.t 11) (.seq (.ops [mo 12 7,mo 6 12]) (.keep (kp [(6,0)] [(0,2),(5,1),(6,1),(7,1),(8,1)] 1) .ret)) .skip))) (.trim [0,1,2] (.seq (sq [mo 13 0,nk 14 13,fa 15 1 14,ld 16 15,le 17 16,bn 18 .geq (.t 17) (ki 600)] [0,1,2,18] (.cond (.t 18) (.seq (.ops [mk 6 (ki 5)]) (.keep (kp [(6,0)] [(0,2),(5,1),(6,1),(7,1),(8,1)] 1) .ret)) .skip)) (.trim [0,1,2] (sq [mo 19 0,mo 20 0,nk 21 20,fa 22 1 21,ld 23 22,mo 24 1,mo 25 2,oo 26 (.build [(.int .i64 0),(.str [])] [(0,1,(.t 24)),(1,1,(.t 25))]),oo 27 (.bslice [(.int .i64 0),(.str [])] 1 [(0,(.t 26))]),oo 28 (.append 96 2 24 (.t 23) (.t 27)),nk 29 19,fa 30 1 29,⟨none,none,(.store 1 (.t 30) (.t 28))⟩] [] (.seq (.ops [mk 6 (ki 0)]) (.keep (kp [(6,0)] [(0,2),(5,1),(10,1),(7,1),(8,1)] 1) .ret)))))))),[.t 6]⟩
abbrev g26_S:=Sys.on [] [((86,0),(1,g23_r))]
def impl_Disk_write_oc8 (a1:K1) (a2:Int) (a3:Str):Option (K1 × Int):=(impl_Disk_power_o19 a1).bind fun r1=>if ¬(r1.2 = 0) then some (r1.1,r1.2) else if ((r1.1.1.2.1.length:Nat):Int) ≥ 600 then some (r1.1,5) else (appL 24 r1.1.1.2.1 ((lit [(a2,a3)]:List (Int × Str)))).bind fun l2=>some (((r1.1.1.1,l2,r1.1.1.2.2.1,r1.1.1.2.2.2),r1.1.2.1,r1.1.2.2.1,r1.1.2.2.2.1,r1.1.2.2.2.2.1,r1.1.2.2.2.2.2),0)
@[simp] def g26_O:(K1 × Int) → TV × List Blk:=fun r=>((.int .i64 r.2),[(.live 12 [[(ow 1 r.1.1.1.length),(ow 2 r.1.1.2.1.length),(.int .i64 r.1.1.2.2.1),(.bool r.1.1.2.2.2),(.int .i64 r.1.2.1.1),(.int .i64 r.1.2.1.2.1),(.int .i64 r.1.2.1.2.2.1),(.int .i64 r.1.2.1.2.2.2),(.int .i64 r.1.2.2.1),(.int .i64 r.1.2.2.2.1),(ow 3 r.1.2.2.2.2.1.length),(ow 4 r.1.2.2.2.2.2.length)]]),(ob 1 r.1.1.1),(ob 2 r.1.1.2.1),(ob 2 r.1.2.2.2.2.1),(ob 2 r.1.2.2.2.2.2)])
abbrev g26_T:=K1 × Int × Str
def g26_E (a:g26_T):List TV:=[(.ptr 0 0 0),(.int .i64 a.2.1),(.str a.2.2)]
def g26_B (a:g26_T):List Blk:=[(.live 12 [[(ow 1 a.1.1.1.length),(ow 2 a.1.1.2.1.length),(.int .i64 a.1.1.2.2.1),(.bool a.1.1.2.2.2),(.int .i64 a.1.2.1.1),(.int .i64 a.1.2.1.2.1),(.int .i64 a.1.2.1.2.2.1),(.int .i64 a.1.2.1.2.2.2),(.int .i64 a.1.2.2.1),(.int .i64 a.1.2.2.2.1),(ow 3 a.1.2.2.2.2.1.length),(ow 4 a.1.2.2.2.2.2.length)]]),(ob 1 a.1.1.1),(ob 2 a.1.1.2.1),(ob 2 a.1.2.2.2.2.1),(ob 2 a.1.2.2.2.2.2)]
theorem g26_run (a1:K1) (a2:Int) (a3:Str) :callFn (X g26_S) g26_tf (g26_E (a1,a2,a3)) (g26_B (a1,a2,a3)) = (impl_Disk_write_oc8 a1 a2 a3).map g26_O:=by
  rw [callFn_eq]
  simp (maxSteps:=2000000) (maxDischargeDepth:=8) -implicitDefEqProofs [g26_tf,impl_Disk_write_oc8,g26_E,g26_B,bslV_lit (α:=Int × Str) (zs:=[(.int .i64 0),(.str [])])] <;> (try simp only [map_to_bind,some_elim,g26_O])
def g26_r:MRule:=RmO g26_E g26_B (fun a=>impl_Disk_write_oc8 a.1 a.2.1 a.2.2) g26_O
theorem g26_ok:MRuleOk Tryz.prog 87 1 g26_r:=ok_rmo (S:=g26_S) (tf:=g26_tf) (SysOk.on trivial ⟨g23_ok,trivial⟩) (trE_ok (ks:=[]) Tryz.func87 (by kernel_rfl)) (by rfl) (fun _=>by simp [g26_B]) (fun _=>by simp) fun a=>g26_run a.1 a.2.1 a.2.2
@[simp] theorem g26_app (y0:List Str)(y1:List (Int × Str))(y2 y3 y4 y5 y6 y7 y8 y9)(y10:List (Int × Str))(y11:List (Int × Str))(y12 y13){n1:Nat}(h1:n1 = y0.length){n2:Nat}(h2:n2 = y1.length){n3:Nat}(h3:n3 = y10.length){n4:Nat}(h4:n4 = y11.length):g26_r [(.ptr 0 0 0),(.int .i64 y12),(.str y13)] [(.live 12 [[(ow 1 n1),(ow 2 n2),(.int .i64 y2),(.bool y3),(.int .i64 y4),(.int .i64 y5),(.int .i64 y6),(.int .i64 y7),(.int .i64 y8),(.int .i64 y9),(ow 3 n3),(ow 4 n4)]]),(ob 1 y0),(ob 2 y1),(ob 2 y10),(ob 2 y11)] = (impl_Disk_write_oc8 (((y0,y1,y2,y3),(y4,y5,y6,y7),y8,y9,y10,y11)) y12 y13).map g26_O:=by
  subst h1 h2 h3 h4
  exact RmO_app (enc:=g26_E) (encB:=g26_B) (by intro a b h h2; simp [g26_E,g26_B,Prod.ext_iff] at h h2 ⊢; simp [h,h2]) (((y0,y1,y2,y3),(y4,y5,y6,y7),y8,y9,y10,y11),y12,y13)
/-! (*impl.Disk).writeSuper -/
def g13_tf:TFn:=⟨(sq [bx 3 1,mk 4 (ki 0)] [0,3] (.seq (.draw [([],mo 5 0),([],fa 6 3 3),([1],ld 7 6),([1,2],bn 8 .rem (.t 7) (ki 2)),([],ln 9 4 3),([4],ca 10 88 [.t 9])] [oo 11 (.callM 87 1 [0,1,2,3,4] [.t 5,.t 8,.t 10]),mo 4 11]) (.keep (kp [(4,0)] [(0,2),(6,1),(7,1),(8,1),(9,1)] 1) .ret))),[.t 4]⟩
abbrev g13_S:=Sys.on [(88,g41_r)] [((87,1),(1,g26_r))]
def impl_Disk_writeSuper_o35 (a1:K1) (a2:Int) (a3:Int) (a4:Int) (a5:Int):Option (K1 × Int):=(impl_Super_encode ((a2,a3,a4,a5))).bind fun r1=>(impl_Disk_write_oc8 a1 ((Int.tmod a5 2)) r1).bind fun r2=>some (r2.1,r2.2)
@[simp] def g13_O:(K1 × Int) → TV × List Blk:=fun r=>((.int .i64 r.2),[(.live 12 [[(ow 1 r.1.1.1.length),(ow 2 r.1.1.2.1.length),(.int .i64 r.1.1.2.2.1),(.bool r.1.1.2.2.2),(.int .i64 r.1.2.1.1),(.int .i64 r.1.2.1.2.1),(.int .i64 r.1.2.1.2.2.1),(.int .i64 r.1.2.1.2.2.2),(.int .i64 r.1.2.2.1),(.int .i64 r.1.2.2.2.1),(ow 3 r.1.2.2.2.2.1.length),(ow 4 r.1.2.2.2.2.2.length)]]),(ob 1 r.1.1.1),(ob 2 r.1.1.2.1),(ob 2 r.1.2.2.2.2.1),(ob 2 r.1.2.2.2.2.2)])
abbrev g13_T:=K1 × Int × Int × Int × Int
def g13_E (a:g13_T):List TV:=[(.ptr 0 0 0),(.agg [(.int .i64 a.2.1),(.int .i64 a.2.2.1),(.int .i64 a.2.2.2.1),(.int .i64 a.2.2.2.2)])]
def g13_B (a:g13_T):List Blk:=[(.live 12 [[(ow 1 a.1.1.1.length),(ow 2 a.1.1.2.1.length),(.int .i64 a.1.1.2.2.1),(.bool a.1.1.2.2.2),(.int .i64 a.1.2.1.1),(.int .i64 a.1.2.1.2.1),(.int .i64 a.1.2.1.2.2.1),(.int .i64 a.1.2.1.2.2.2),(.int .i64 a.1.2.2.1),(.int .i64 a.1.2.2.2.1),(ow 3 a.1.2.2.2.2.1.length),(ow 4 a.1.2.2.2.2.2.length)]]),(ob 1 a.1.1.1),(ob 2 a.1.1.2.1),(ob 2 a.1.2.2.2.2.1),(ob 2 a.1.2.2.2.2.2)]
theorem g13_run (a1:K1) (a2:Int) (a3:Int) (a4:Int) (a5:Int) :callFn (X g13_S) g13_tf (g13_E (a1,a2,a3,a4,a5)) (g13_B (a1,a2,a3,a4,a5)) = (impl_Disk_writeSuper_o35 a1 a2 a3 a4 a5).map g13_O:=by
  rw [callFn_eq]
  simp (maxSteps:=2000000) (maxDischargeDepth:=8) -implicitDefEqProofs [g13_tf,impl_Disk_writeSuper_o35,g13_E,g13_B] <;> (try simp only [map_to_bind,some_elim,g13_O])
def g13_r:MRule:=RmO g13_E g13_B (fun a=>impl_Disk_writeSuper_o35 a.1 a.2.1 a.2.2.1 a.2.2.2.1 a.2.2.2.2) g13_O
theorem g13_ok:MRuleOk Tryz.prog 58 1 g13_r:=ok_rmo (S:=g13_S) (tf:=g13_tf) (SysOk.on ⟨g41_ok,trivial⟩ ⟨g26_ok,trivial⟩) (trE_ok (ks:=[[6]]) Tryz.func58 (by kernel_rfl)) (by rfl) (fun _=>by simp [g13_B]) (fun _=>by simp) fun a=>g13_run a.1 a.2.1 a.2.2.1 a.2.2.2.1 a.2.2.2.2
@[simp] theorem g13_app (y0:List Str)(y1:List (Int × Str))(y2 y3 y4 y5 y6 y7 y8 y9)(y10:List (Int × Str))(y11:List (Int × Str))(y12 y13 y14 y15){n1:Nat}(h1:n1 = y0.length){n2:Nat}(h2:n2 = y1.length){n3:Nat}(h3:n3 = y10.length){n4:Nat}(h4:n4 = y11.length):g13_r [(.ptr 0 0 0),(.agg [(.int .i64 y12),(.int .i64 y13),(.int .i64 y14),(.int .i64 y15)])] [(.live 12 [[(ow 1 n1),(ow 2 n2),(.int .i64 y2),(.bool y3),(.int .i64 y4),(.int .i64 y5),(.int .i64 y6),(.int .i64 y7),(.int .i64 y8),(.int .i64 y9),(ow 3 n3),(ow 4 n4)]]),(ob 1 y0),(ob 2 y1),(ob 2 y10),(ob 2 y11)] = (impl_Disk_writeSuper_o35 (((y0,y1,y2,y3),(y4,y5,y6,y7),y8,y9,y10,y11)) y12 y13 y14 y15).map g13_O:=by
  subst h1 h2 h3 h4
  exact RmO_app (enc:=g13_E) (encB:=g13_B) (by intro a b h h2; simp [g13_E,g13_B,Prod.ext_iff] at h h2 ⊢; simp [h,h2]) (((y0,y1,y2,y3),(y4,y5,y6,y7),y8,y9,y10,y11),y12,y13,y14,y15)
/-! (*impl.Pager).checkpoint.2 -/
def g10_tf:TFn:=⟨(sq [mk 2 (ki 0)] [0,1] (.seq (.draw [([],ld 3 0),([0],nk 4 3),([0,1],fa 5 0 4),([],ln 6 4 1)] [oo 7 (.callM 58 0 [1,3,4,5,6] [.t 5,.t 6]),mo 2 7]) (.keep (kp [(2,0)] [(0,0),(1,2),(2,0),(7,1),(8,1),(9,1),(10,1)] 3) .ret))),[.t 2]⟩
abbrev g10_S:=Sys.on [] [((58,0),(1,g13_r))]
def impl_Pager_checkpoint_c2_o0d (a1:K1) (a2:Int × Int × Int × Int):Option (K1 × (Int × Int × Int × Int) × Int):=(impl_Disk_writeSuper_o35 a1 a2.1 a2.2.1 a2.2.2.1 a2.2.2.2).bind fun r1=>some (r1.1,a2,r1.2)
@[simp] def g10_O:(K1 × (Int × Int × Int × Int) × Int) → TV × List Blk:=fun r=>((.int .i64 r.2.2),[(.live 1 [[(.ptr 1 0 0)]]),(.live 12 [[(ow 3 r.1.1.1.length),(ow 4 r.1.1.2.1.length),(.int .i64 r.1.1.2.2.1),(.bool r.1.1.2.2.2),(.int .i64 r.1.2.1.1),(.int .i64 r.1.2.1.2.1),(.int .i64 r.1.2.1.2.2.1),(.int .i64 r.1.2.1.2.2.2),(.int .i64 r.1.2.2.1),(.int .i64 r.1.2.2.2.1),(ow 5 r.1.2.2.2.2.1.length),(ow 6 r.1.2.2.2.2.2.length)]]),(.live 4 [[(.int .i64 r.2.1.1),(.int .i64 r.2.1.2.1),(.int .i64 r.2.1.2.2.1),(.int .i64 r.2.1.2.2.2)]]),(ob 1 r.1.1.1),(ob 2 r.1.1.2.1),(ob 2 r.1.2.2.2.2.1),(ob 2 r.1.2.2.2.2.2)])
abbrev g10_T:=K1 × (Int × Int × Int × Int)
def g10_E (a:g10_T):List TV:=[(.ptr 0 0 0),(.ptr 2 0 0)]
def g10_B (a:g10_T):List Blk:=[(.live 1 [[(.ptr 1 0 0)]]),(.live 12 [[(ow 3 a.1.1.1.length),(ow 4 a.1.1.2.1.length),(.int .i64 a.1.1.2.2.1),(.bool a.1.1.2.2.2),(.int .i64 a.1.2.1.1),(.int .i64 a.1.2.1.2.1),(.int .i64 a.1.2.1.2.2.1),(.int .i64 a.1.2.1.2.2.2),(.int .i64 a.1.2.2.1),(.int .i64 a.1.2.2.2.1),(ow 5 a.1.2.2.2.2.1.length),(ow 6 a.1.2.2.2.2.2.length)]]),(.live 4 [[(.int .i64 a.2.1),(.int .i64 a.2.2.1),(.int .i64 a.2.2.2.1),(.int .i64 a.2.2.2.2)]]),(ob 1 a.1.1.1),(ob 2 a.1.1.2.1),(ob 2 a.1.2.2.2.2.1),(ob 2 a.1.2.2.2.2.2)]
theorem g10_run (a1:K1) (a2:Int × Int × Int × Int) :callFn (X g10_S) g10_tf (g10_E (a1,a2)) (g10_B (a1,a2)) = (impl_Pager_checkpoint_c2_o0d a1 a2).map g10_O:=by
  rw [callFn_eq]
  simp (maxSteps:=2000000) (maxDischargeDepth:=8) -implicitDefEqProofs [g10_tf,impl_Pager_checkpoint_c2_o0d,g10_E,g10_B] <;> (try simp only [map_to_bind,some_elim,g10_O])
def g10_r:MRule:=RmO g10_E g10_B (fun a=>impl_Pager_checkpoint_c2_o0d a.1 a.2) g10_O
theorem g10_ok:MRuleOk Tryz.prog 57 3 g10_r:=ok_rmo (S:=g10_S) (tf:=g10_tf) (SysOk.on trivial ⟨g13_ok,trivial⟩) (trE_ok (ks:=[[4]]) Tryz.func57 (by kernel_rfl)) (by rfl) (fun _=>by simp [g10_B]) (fun _=>by simp) fun a=>g10_run a.1 a.2
@[simp] theorem g10_app (y0:List Str)(y1:List (Int × Str))(y2 y3 y4 y5 y6 y7 y8 y9)(y10:List (Int × Str))(y11:List (Int × Str))(y12 y13 y14 y15){n1:Nat}(h1:n1 = y0.length){n2:Nat}(h2:n2 = y1.length){n3:Nat}(h3:n3 = y10.length){n4:Nat}(h4:n4 = y11.length):g10_r [(.ptr 0 0 0),(.ptr 2 0 0)] [(.live 1 [[(.ptr 1 0 0)]]),(.live 12 [[(ow 3 n1),(ow 4 n2),(.int .i64 y2),(.bool y3),(.int .i64 y4),(.int .i64 y5),(.int .i64 y6),(.int .i64 y7),(.int .i64 y8),(.int .i64 y9),(ow 5 n3),(ow 6 n4)]]),(.live 4 [[(.int .i64 y12),(.int .i64 y13),(.int .i64 y14),(.int .i64 y15)]]),(ob 1 y0),(ob 2 y1),(ob 2 y10),(ob 2 y11)] = (impl_Pager_checkpoint_c2_o0d (((y0,y1,y2,y3),(y4,y5,y6,y7),y8,y9,y10,y11)) ((y12,y13,y14,y15))).map g10_O:=by
  subst h1 h2 h3 h4
  exact RmO_app (enc:=g10_E) (encB:=g10_B) (by intro a b h h2; simp [g10_E,g10_B,Prod.ext_iff] at h h2 ⊢; simp [h,h2]) (((y0,y1,y2,y3),(y4,y5,y6,y7),y8,y9,y10,y11),(y12,y13,y14,y15))
/-! (impl.Disk).read -/
def impl_Disk_read (d:K0) (k:Int):Option Str:=readD d k
noncomputable def g67_r:Rule:=read_r
theorem g67_ok:RuleOk Tryz.prog 90 g67_r:=read_ok
@[simp] theorem g67_app (y0 y1 y2 y3 y4):g67_r [.agg [.vs (rows y0),.vs (rows y1),.int .i64 y2,.bool y3],.int .i64 y4] = (impl_Disk_read (y0,y1,y2,y3) y4).map (fun r=>(.str r,[])):=read_app y0 y1 y2 y3 y4
/-! strings.trimRightByte -/
def g18l1_cb:TC:=(.seq (sq [mo 5 0,oo 6 (.len true (.t 5)),bn 7 .gtr (.t 6) (ki 0),mo 8 7,⟨(some 9),(some (8,true)),(.mv (.t 0))⟩,⟨(some 10),(some (8,true)),(.mv (.t 0))⟩,⟨(some 11),(some (8,true)),(.len true (.t 10))⟩,⟨(some 12),(some (8,true)),(.bin .num .sub (.t 11) (ki 1))⟩,⟨(some 13),(some (8,true)),(.index (.t 9) (.t 12))⟩,⟨(some 14),(some (8,true)),(.mv (.t 1))⟩,⟨(some 15),(some (8,true)),(.bin .num .eql (.t 13) (.t 14))⟩,pk 16 (.t 8) (.t 15) (kb false)] [0,1,16] (.cond (.t 16) .skip (.keep (kp [(0,0)] [] 0) (.exit 0)))) (.trim [0,1] (.block 1 (.after (.ops [mo 17 0,mo 18 0,oo 19 (.len true (.t 18)),bn 20 .sub (.t 19) (ki 1),oo 21 (.sliceS (.t 17) none (some (.t 20))),mo 0 21]) (kp [(0,0),(1,0)] [] 0)))))
def g18l1_c:TC:=.loop [0,1] g18l1_cb
def g18_tf:TFn:=⟨(sq [mk 4 (.c (.str []))] [0,1] (.seq (.block 0 (.keep (kp [(0,0),(1,0)] [] 0) g18l1_c)) (.trim [0] (.seq (.ops [mo 22 0,mo 4 22]) (.keep (kp [(4,0)] [] 0) .ret))))),[.t 4]⟩
abbrev g18_S:=Sys.on [] []
@[reducible,simp] def g18l1_F:Str → Out:=(fun t=>(.ext 0,[(0,(.str t))],[]))
def strings_trimRightByte_l1_b (v2:Int) (v1:Str):Option ((Str) ⊕ (Str)):=if (v1.length:Int) > 0 then if 0 ≤ (IntKind.i64.wrap ((v1.length:Int) - 1)) then (v1[((IntKind.i64.wrap ((v1.length:Int) - 1))).toNat]?).bind fun (b3:UInt8)=>if (b3.toNat:Int) = v2 then (subL v1 none (some ((IntKind.i64.wrap ((v1.length:Int) - 1))))).bind fun s4=>some (.inl s4) else some (.inr v1) else none else some (.inr v1)
theorem g18l1_b_eq  (v2:Int) (v1:Str):X g18_S g18l1_cb (keepEnv [0,1] [(0,(.str v1)),(1,(.int .u8 v2))]) [] = (strings_trimRightByte_l1_b v2 v1).map (Sum.elim (fun s=>(TX.nrm,[(0,(.str s)),(1,(.int .u8 v2))],[])) g18l1_F):=by
  simp (maxSteps:=2000000) (maxDischargeDepth:=8) -implicitDefEqProofs [g18l1_cb,strings_trimRightByte_l1_b] <;> (try simp only [map_to_bind,some_elim,g18l1_F])
def strings_trimRightByte_l1 (v2:Int) (s:Str):Option (Str):=loopO (fun s=>strings_trimRightByte_l1_b v2 s) s
@[simp] theorem g18l1_eq (y0 y1):X g18_S g18l1_c [(0,(.str y0)),(1,(.int .u8 y1))] [] = (strings_trimRightByte_l1 y1 y0).map g18l1_F:=by
  exact loop_X _ _ _ _ (by intro r; first | (simp; done) | (rcases r with r | r <;> simp; done) | (rcases r with r | r | r <;> simp; done) | (rcases r with r | r | r | r <;> simp)) (fun s=>g18l1_b_eq  y1 s) y0
def strings_trimRightByte (a_s:Str) (a_c:Int):Option (Str):=(strings_trimRightByte_l1 a_c a_s).bind fun r5=>some r5
@[simp] def g18_O:Str → TV × List Blk:=fun r=>((.str r),[])
def g18_E (a:Str × Int):List TV:=[(.str a.1),(.int .u8 a.2)]
theorem g18_run (a_s:Str) (a_c:Int) :callFn (X g18_S) g18_tf (g18_E (a_s,a_c)) [] = (strings_trimRightByte a_s a_c).map g18_O:=by
  rw [callFn_eq]
  simp (maxSteps:=2000000) (maxDischargeDepth:=8) -implicitDefEqProofs [g18_tf,strings_trimRightByte,g18_E] <;> (try simp only [map_to_bind,some_elim,g18_O])
def g18_r:Rule:=RlO g18_E (fun a=>strings_trimRightByte a.1 a.2) g18_O
theorem g18_ok:RuleOk Tryz.prog 113 g18_r:=ok_rlo (S:=g18_S) (tf:=g18_tf) (SysOk.on trivial trivial) (trE_ok (ks:=[[0,1]]) Tryz.func113 (by kernel_rfl)) fun a=>g18_run a.1 a.2
@[simp] theorem g18_app (y0 y1):g18_r [(.str y0),(.int .u8 y1)] = (strings_trimRightByte y0 y1).map g18_O :=
  RlO_app (enc:=g18_E) (by intro a b h; simp [g18_E,Prod.ext_iff] at h ⊢; simp [h]) (y0,y1)
/-! strings.TrimRight -/
def g42_tf:TFn:=⟨(sq [mk 4 (.c (.str []))] [0,1] (.seq (sq [mo 7 0,oo 8 (.bin .str .eql (.t 7) (.c (.str []))),mo 9 8,⟨(some 10),(some (9,false)),(.mv (.t 1))⟩,⟨(some 11),(some (9,false)),(.bin .str .eql (.t 10) (.c (.str [])))⟩,pk 12 (.t 9) (kb true) (.t 11)] [0,1,12] (.cond (.t 12) (.seq (.ops [mo 13 0,mo 4 13]) (.keep (kp [(4,0)] [] 0) .ret)) .skip)) (.trim [0,1] (.seq (sq [mo 14 1,oo 15 (.len true (.t 14)),bn 16 .eql (.t 15) (ki 1),mo 17 16,⟨(some 18),(some (17,true)),(.mv (.t 1))⟩,⟨(some 19),(some (17,true)),(.index (.t 18) (ki 0))⟩,⟨(some 20),(some (17,true)),(.bin .num .lss (.t 19) (.c (.int .u8 128)))⟩,pk 21 (.t 17) (.t 20) (kb false)] [0,1,21] (.cond (.t 21) (.seq (.ops [mo 22 0,mo 23 1,oo 24 (.index (.t 23) (ki 0)),ca 25 113 [.t 22,.t 24],mo 4 25]) (.keep (kp [(4,0)] [] 0) .ret)) .skip)) (.trim [0,1] (.seq (sq [mo 27 1,ca 28 114 [.t 27],mo 26 28,oo 29 (.ext (.t 26) 0),oo 30 (.ext (.t 26) 1),oo 5 (.alloc (zs 256 (.bool false))),⟨none,none,(.store 256 (.t 5) (.t 29))⟩,mo 6 30] [0,1,5,6] (sq [mo 31 6] [0,1,5,31] (.cond (.t 31) (.seq (.ops [mo 32 0,ca 33 115 [.t 32,.t 5],mo 4 33]) .ret) .skip))) (.trim [0,1] (.seq (.ops [mo 34 0,mo 35 1,ca 36 116 [.t 34,.t 35],mo 4 36]) .ret)))))))),[.t 4]⟩
abbrev g42_S:=Sys.on [(113,g18_r)] []
def strings_TrimRight (a_s:Str):Option (Str):=if a_s = ([]:Str) then some a_s else (strings_trimRightByte a_s 0).bind fun r1=>some r1
@[simp] def g42_O:Str → TV × List Blk:=fun r=>((.str r),[])
def g42_E (a:Str):List TV:=[(.str a),(.str (([0]:Str)))]
theorem g42_run (a_s:Str) :callFn (X g42_S) g42_tf (g42_E a_s) [] = (strings_TrimRight a_s).map g42_O:=by
  rw [callFn_eq]
  simp (maxSteps:=2000000) (maxDischargeDepth:=8) -implicitDefEqProofs [g42_tf,strings_TrimRight,g42_E] <;> (try simp only [map_to_bind,some_elim,g42_O])
def g42_r:Rule:=RlO g42_E (fun a=>strings_TrimRight a) g42_O
theorem g42_ok:RuleOk Tryz.prog 108 g42_r:=ok_rlo (S:=g42_S) (tf:=g42_tf) (SysOk.on ⟨g18_ok,trivial⟩ trivial) (trE_ok (ks:=[]) Tryz.func108 (by kernel_rfl)) fun a=>g42_run a
@[simp] theorem g42_app (y0):g42_r [(.str y0),(.str (([0]:Str)))] = (strings_TrimRight y0).map g42_O :=
  RlO_app (enc:=g42_E) (by intro a b h; simp [g42_E,Prod.ext_iff] at h ⊢; simp [h]) y0
/-! impl.trimmed -/
def g90_tf:TFn:=⟨(sq [mk 2 (.c (.str []))] [0] (.seq (.ops [mo 3 0,oo 4 (.call 108 [.t 3,(.c (.str [0]))]),mo 2 4]) (.keep (kp [(2,0)] [] 0) .ret))),[.t 2]⟩
abbrev g90_S:=Sys.on [(108,g42_r)] []
def impl_trimmed (a_b:Str):Option (Str):=(strings_TrimRight a_b).bind fun r1=>some r1
@[simp] def g90_O:Str → TV × List Blk:=fun r=>((.str r),[])
def g90_E (a:Str):List TV:=[(.str a)]
theorem g90_run (a_b:Str) :callFn (X g90_S) g90_tf (g90_E a_b) [] = (impl_trimmed a_b).map g90_O:=by
  rw [callFn_eq]
  simp (maxSteps:=2000000) (maxDischargeDepth:=8) -implicitDefEqProofs [g90_tf,impl_trimmed,g90_E] <;> (try simp only [map_to_bind,some_elim,g90_O])
def g90_r:Rule:=RlO g90_E (fun a=>impl_trimmed a) g90_O
theorem g90_ok:RuleOk Tryz.prog 89 g90_r:=ok_rlo (S:=g90_S) (tf:=g90_tf) (SysOk.on ⟨g42_ok,trivial⟩ trivial) (trE_ok (ks:=[]) Tryz.func89 (by kernel_rfl)) fun a=>g90_run a
@[simp] theorem g90_app (y0):g90_r [(.str y0)] = (impl_trimmed y0).map g90_O :=
  RlO_app (enc:=g90_E) (by intro a b h; simp [g90_E,Prod.ext_iff] at h ⊢; simp [h]) y0
/-! (*impl.Pager).clearLog -/
def g14l1_cb:TC:=(sq [bn 11 .lss (.t 10) (.t 9)] [0,9,10,11] (.seq (.cond (.t 11) .skip (.keep (kp [] [(0,2),(1,1),(2,1),(3,1),(4,1)] 1) (.exit 0))) (.trim [0,9,10] (.seq (.block 1 (sq [mo 12 10,mo 3 12] [0,3,9,10] (.seq (sq [mo 13 0,nk 14 13,fa 15 0 14,ln 16 4 15,mo 17 3,bn 18 .add (ki 2) (.t 17),ca 19 90 [.t 16,.t 18],ca 20 89 [.t 19],oo 21 (.bin .str .eql (.t 20) (.c (.str [])))] [0,3,9,10,21] (.cond (.t 21) (.keep (kp [(0,0),(9,0),(10,0)] [(0,2),(1,1),(2,1),(3,1),(4,1)] 1) (.exit 1)) .skip)) (.trim [0,3,9,10] (.seq (.draw [([],mo 22 0),([0],nk 23 22),([0,1],fa 24 0 23),([],mo 25 3),([3],bn 26 .add (ki 2) (.t 25)),([],ca 27 91 [ki 64])] [oo 28 (.callM 87 1 [0,1,2,3,4] [.t 24,.t 26,.t 27]),mo 4 28]) (.trim [0,4,9,10] (sq [mo 29 4,bn 30 .neq (.t 29) (ki 0)] [0,4,9,10,30] (.cond (.t 30) (.seq (.ops [mo 31 4,mo 2 31]) (.keep (kp [(2,0)] [(0,2),(5,1),(6,1),(7,1),(8,1)] 1) .ret)) (.keep (kp [(0,0),(9,0),(10,0)] [(0,2),(5,1),(6,1),(7,1),(8,1)] 1) .skip))))))))) (.trim [0,9,10] (.after (.ops [bn 32 .add (.t 10) (ki 1),mo 10 32]) (kp [(0,0),(9,0),(10,0)] [(0,2),(1,1),(2,1),(3,1),(4,1)] 1)))))))
def g14l1_c:TC:=.loop [0,9,10] g14l1_cb
def g14_tf:TFn:=⟨(sq [mk 2 (ki 0)] [0] (.seq (sq [mo 5 0,nk 6 5,fa 7 4 6,fa 8 1 7,ld 9 8,mk 10 (ki 0)] [0,9,10] (.block 0 (.keep (kp [(0,0),(9,0),(10,0)] [(0,2),(1,1),(2,1),(3,1),(4,1)] 1) g14l1_c))) (.trim [] (.seq (.ops [mk 2 (ki 0)]) (.keep (kp [(2,0)] [(0,2),(1,1),(2,1),(3,1),(4,1)] 1) .ret))))),[.t 2]⟩
abbrev g14_S:=Sys.on [(90,g67_r),(89,g90_r),(91,g113_r)] [((87,1),(1,g26_r))]
@[reducible,simp] def g14l1_F:((K1) ⊕ (K1 × Int)) → Out:=(Sum.elim (fun t=>(.ext 0,[],[(.live 12 [[(ow 1 t.1.1.length),(ow 2 t.1.2.1.length),(.int .i64 t.1.2.2.1),(.bool t.1.2.2.2),(.int .i64 t.2.1.1),(.int .i64 t.2.1.2.1),(.int .i64 t.2.1.2.2.1),(.int .i64 t.2.1.2.2.2),(.int .i64 t.2.2.1),(.int .i64 t.2.2.2.1),(ow 3 t.2.2.2.2.1.length),(ow 4 t.2.2.2.2.2.length)]]),(ob 1 t.1.1),(ob 2 t.1.2.1),(ob 2 t.2.2.2.2.1),(ob 2 t.2.2.2.2.2)])) (fun t=>(.ret,[(2,(.int .i64 t.2))],[(.live 12 [[(ow 1 t.1.1.1.length),(ow 2 t.1.1.2.1.length),(.int .i64 t.1.1.2.2.1),(.bool t.1.1.2.2.2),(.int .i64 t.1.2.1.1),(.int .i64 t.1.2.1.2.1),(.int .i64 t.1.2.1.2.2.1),(.int .i64 t.1.2.1.2.2.2),(.int .i64 t.1.2.2.1),(.int .i64 t.1.2.2.2.1),(ow 3 t.1.2.2.2.2.1.length),(ow 4 t.1.2.2.2.2.2.length)]]),(ob 1 t.1.1.1),(ob 2 t.1.1.2.1),(ob 2 t.1.2.2.2.2.1),(ob 2 t.1.2.2.2.2.2)])))
def impl_Pager_clearLog_o19_l1_b (v2:Int) (v1:K1) (v3:Int):Option ((K1 × Int) ⊕ ((K1) ⊕ (K1 × Int))):=if v3 < v2 then (impl_Disk_read v1.1 ((IntKind.i64.wrap (2 + v3)))).bind fun r4=>(impl_trimmed r4).bind fun r5=>if r5 = ([]:Str) then some (.inl (v1,(IntKind.i64.wrap (v3 + 1)))) else (impl_zeros 64).bind fun r6=>(impl_Disk_write_oc8 v1 ((IntKind.i64.wrap (2 + v3))) r6).bind fun r7=>if ¬(r7.2 = 0) then some (.inr (.inr (r7.1,r7.2))) else some (.inl (r7.1,(IntKind.i64.wrap (v3 + 1)))) else some (.inr (.inl v1))
theorem g14l1_b_eq  (v2:Int) (v1:K1) (v3:Int):X g14_S g14l1_cb (keepEnv [0,9,10] [(0,(.ptr 0 0 0)),(9,(.int .i64 v2)),(10,(.int .i64 v3))]) [(.live 12 [[(ow 1 v1.1.1.length),(ow 2 v1.1.2.1.length),(.int .i64 v1.1.2.2.1),(.bool v1.1.2.2.2),(.int .i64 v1.2.1.1),(.int .i64 v1.2.1.2.1),(.int .i64 v1.2.1.2.2.1),(.int .i64 v1.2.1.2.2.2),(.int .i64 v1.2.2.1),(.int .i64 v1.2.2.2.1),(ow 3 v1.2.2.2.2.1.length),(ow 4 v1.2.2.2.2.2.length)]]),(ob 1 v1.1.1),(ob 2 v1.1.2.1),(ob 2 v1.2.2.2.2.1),(ob 2 v1.2.2.2.2.2)] = (impl_Pager_clearLog_o19_l1_b v2 v1 v3).map (Sum.elim (fun s=>(TX.nrm,[(0,(.ptr 0 0 0)),(9,(.int .i64 v2)),(10,(.int .i64 s.2))],[(.live 12 [[(ow 1 s.1.1.1.length),(ow 2 s.1.1.2.1.length),(.int .i64 s.1.1.2.2.1),(.bool s.1.1.2.2.2),(.int .i64 s.1.2.1.1),(.int .i64 s.1.2.1.2.1),(.int .i64 s.1.2.1.2.2.1),(.int .i64 s.1.2.1.2.2.2),(.int .i64 s.1.2.2.1),(.int .i64 s.1.2.2.2.1),(ow 3 s.1.2.2.2.2.1.length),(ow 4 s.1.2.2.2.2.2.length)]]),(ob 1 s.1.1.1),(ob 2 s.1.1.2.1),(ob 2 s.1.2.2.2.2.1),(ob 2 s.1.2.2.2.2.2)])) g14l1_F):=by
  simp (maxSteps:=2000000) (maxDischargeDepth:=8) -implicitDefEqProofs [g14l1_cb,impl_Pager_clearLog_o19_l1_b] <;> (try simp only [map_to_bind,some_elim,g14l1_F])
def impl_Pager_clearLog_o19_l1 (v2:Int) (s:K1 × Int):Option ((K1) ⊕ (K1 × Int)):=loopO (fun s=>impl_Pager_clearLog_o19_l1_b v2 s.1 s.2) s
@[simp] theorem g14l1_eq (y0:List Str)(y1:List (Int × Str))(y2 y3 y4 y5 y6 y7 y8 y9)(y10:List (Int × Str))(y11:List (Int × Str))(y12 y13){n1:Nat}(h1:n1 = y0.length){n2:Nat}(h2:n2 = y1.length){n3:Nat}(h3:n3 = y10.length){n4:Nat}(h4:n4 = y11.length):X g14_S g14l1_c [(0,(.ptr 0 0 0)),(9,(.int .i64 y12)),(10,(.int .i64 y13))] [(.live 12 [[(ow 1 n1),(ow 2 n2),(.int .i64 y2),(.bool y3),(.int .i64 y4),(.int .i64 y5),(.int .i64 y6),(.int .i64 y7),(.int .i64 y8),(.int .i64 y9),(ow 3 n3),(ow 4 n4)]]),(ob 1 y0),(ob 2 y1),(ob 2 y10),(ob 2 y11)] = (impl_Pager_clearLog_o19_l1 y12 (((y0,y1,y2,y3),(y4,y5,y6,y7),y8,y9,y10,y11),y13)).map g14l1_F:=by
  subst h1 h2 h3 h4
  exact loop_X _ _ _ _ (by intro r; first | (simp; done) | (rcases r with r | r <;> simp; done) | (rcases r with r | r | r <;> simp; done) | (rcases r with r | r | r | r <;> simp)) (fun s=>g14l1_b_eq  y12 s.1 s.2) (((y0,y1,y2,y3),(y4,y5,y6,y7),y8,y9,y10,y11),y13)
def impl_Pager_clearLog_o19 (a1:K1):Option (K1 × Int):=(impl_Pager_clearLog_o19_l1 a1.2.1.2.1 ((a1,0))).bind fun r8=>Sum.elim (fun u9=>some (u9,0)) (fun u10=>some (u10.1,u10.2)) r8
@[simp] def g14_O:(K1 × Int) → TV × List Blk:=fun r=>((.int .i64 r.2),[(.live 12 [[(ow 1 r.1.1.1.length),(ow 2 r.1.1.2.1.length),(.int .i64 r.1.1.2.2.1),(.bool r.1.1.2.2.2),(.int .i64 r.1.2.1.1),(.int .i64 r.1.2.1.2.1),(.int .i64 r.1.2.1.2.2.1),(.int .i64 r.1.2.1.2.2.2),(.int .i64 r.1.2.2.1),(.int .i64 r.1.2.2.2.1),(ow 3 r.1.2.2.2.2.1.length),(ow 4 r.1.2.2.2.2.2.length)]]),(ob 1 r.1.1.1),(ob 2 r.1.1.2.1),(ob 2 r.1.2.2.2.2.1),(ob 2 r.1.2.2.2.2.2)])
abbrev g14_T:=K1
def g14_E (a:g14_T):List TV:=[(.ptr 0 0 0)]
def g14_B (a:g14_T):List Blk:=[(.live 12 [[(ow 1 a.1.1.length),(ow 2 a.1.2.1.length),(.int .i64 a.1.2.2.1),(.bool a.1.2.2.2),(.int .i64 a.2.1.1),(.int .i64 a.2.1.2.1),(.int .i64 a.2.1.2.2.1),(.int .i64 a.2.1.2.2.2),(.int .i64 a.2.2.1),(.int .i64 a.2.2.2.1),(ow 3 a.2.2.2.2.1.length),(ow 4 a.2.2.2.2.2.length)]]),(ob 1 a.1.1),(ob 2 a.1.2.1),(ob 2 a.2.2.2.2.1),(ob 2 a.2.2.2.2.2)]
theorem g14_run (a1:K1) :callFn (X g14_S) g14_tf (g14_E a1) (g14_B a1) = (impl_Pager_clearLog_o19 a1).map g14_O:=by
  rw [callFn_eq]
  simp (maxSteps:=2000000) (maxDischargeDepth:=8) -implicitDefEqProofs [g14_tf,impl_Pager_clearLog_o19,g14_E,g14_B] <;> (try simp only [map_to_bind,some_elim,g14_O])
def g14_r:MRule:=RmO g14_E g14_B (fun a=>impl_Pager_clearLog_o19 a) g14_O
theorem g14_ok:MRuleOk Tryz.prog 59 1 g14_r:=ok_rmo (S:=g14_S) (tf:=g14_tf) (SysOk.on ⟨g67_ok,g90_ok,g113_ok,trivial⟩ ⟨g26_ok,trivial⟩) (trE_ok (ks:=[[0,9,10],[6]]) Tryz.func59 (by kernel_rfl)) (by rfl) (fun _=>by simp [g14_B]) (fun _=>by simp) fun a=>g14_run a
@[simp] theorem g14_app (y0:List Str)(y1:List (Int × Str))(y2 y3 y4 y5 y6 y7 y8 y9)(y10:List (Int × Str))(y11:List (Int × Str)){n1:Nat}(h1:n1 = y0.length){n2:Nat}(h2:n2 = y1.length){n3:Nat}(h3:n3 = y10.length){n4:Nat}(h4:n4 = y11.length):g14_r [(.ptr 0 0 0)] [(.live 12 [[(ow 1 n1),(ow 2 n2),(.int .i64 y2),(.bool y3),(.int .i64 y4),(.int .i64 y5),(.int .i64 y6),(.int .i64 y7),(.int .i64 y8),(.int .i64 y9),(ow 3 n3),(ow 4 n4)]]),(ob 1 y0),(ob 2 y1),(ob 2 y10),(ob 2 y11)] = (impl_Pager_clearLog_o19 (((y0,y1,y2,y3),(y4,y5,y6,y7),y8,y9,y10,y11))).map g14_O:=by
  subst h1 h2 h3 h4
  exact RmO_app (enc:=g14_E) (encB:=g14_B) (by intro a b h h2; simp [g14_E,g14_B,Prod.ext_iff] at h h2 ⊢; simp [h,h2]) (((y0,y1,y2,y3),(y4,y5,y6,y7),y8,y9,y10,y11))
end
end Go.Proofs.TM
