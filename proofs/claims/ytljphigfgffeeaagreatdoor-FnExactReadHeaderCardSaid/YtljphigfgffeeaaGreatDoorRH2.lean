/- Functions of the program, as functions of their data: written by program. -/
import Derived.Test.YtljphigfgffeeaaGreatDoorRH1
namespace Go.Proofs.TM
open Go Go.Proofs
set_option linter.unusedVariables false
set_option linter.unusedSimpArgs false
set_option maxHeartbeats 1000000
attribute [-simp] Option.map_bind strV_some
attribute [simp] guardOn_bool sA_bslice Function.comp_def
noncomputable section
/-! slices.IndexFunc[[]impl.Page,impl.Page] -/
def g4l1_cb:TC:=(sq [bn 9 .lss (.t 8) (.t 7)] [0,1,7,8,9] (.seq (.cond (.t 9) .skip (.keep (kp [] [] 0) (.exit 0))) (.trim [0,1,7,8] (.seq (.block 1 (sq [mo 10 8,mo 5 10] [0,1,5,7,8] (sq [mo 11 1,mo 12 0,mo 13 5,ia 14 2 12 13,ln 15 2 14,oo 16 (.callv (.t 11) [.t 15])] [0,1,5,7,8,16] (.cond (.t 16) (.seq (.ops [mo 17 5,mo 4 17]) (.keep (kp [(4,0)] [] 0) .ret)) .skip)))) (.trim [0,1,7,8] (.after (.ops [bn 18 .add (.t 8) (ki 1),mo 8 18]) (kp [(0,0),(1,0),(7,0),(8,0)] [] 0)))))))
def g4l1_c:TC:=.loop [0,1,7,8] g4l1_cb
def g4_tf:TFn:=⟨(sq [mk 4 (ki 0)] [0,1] (.seq (sq [mo 6 0,le 7 6,mk 8 (ki 0)] [0,1,7,8] (.block 0 (.keep (kp [(0,0),(1,0),(7,0),(8,0)] [] 0) g4l1_c))) (.trim [] (.seq (.ops [mk 4 (ki (-1))]) (.keep (kp [(4,0)] [] 0) .ret))))),[.t 4]⟩
abbrev g4_S:=Sys.on [(111,g22_r)] []
@[reducible,simp] def g4l1_F:((Unit) ⊕ (Int)) → Out:=(Sum.elim (fun t=>(.ext 0,[],[])) (fun t=>(.ret,[(4,(.int .i64 t))],[])))
def slices_IndexFunc_impl_Page_impl_Page__Super_inArea_c1_l1_b (v1:List (Int × Str)) (v2:Int) (v3:Int) (v4:Int) (v5:Int) (v6:Int) (v7:Int):Option ((Int) ⊕ ((Unit) ⊕ (Int))):=if v7 < v6 then if 0 ≤ v7 then (v1[(v7).toNat]?).bind fun x8=>(impl_Super_inArea_c1 x8 v2 v3 v4 v5).bind fun r9=>if r9 = true then some (.inr (.inr v7)) else some (.inl ((IntKind.i64.wrap (v7 + 1)))) else none else some (.inr (.inl ()))
theorem g4l1_b_eq  (v1:List (Int × Str)) (v2:Int) (v3:Int) (v4:Int) (v5:Int) (v6:Int) (v7:Int):X g4_S g4l1_cb (keepEnv [0,1,7,8] [(0,(.vs (rows v1))),(1,(.fn 111 [] [(.vp [(.int .i64 v2),(.int .i64 v3),(.int .i64 v4),(.int .i64 v5)])])),(7,(.int .i64 v6)),(8,(.int .i64 v7))]) [] = (slices_IndexFunc_impl_Page_impl_Page__Super_inArea_c1_l1_b v1 v2 v3 v4 v5 v6 v7).map (Sum.elim (fun s=>(TX.nrm,[(0,(.vs (rows v1))),(1,(.fn 111 [] [(.vp [(.int .i64 v2),(.int .i64 v3),(.int .i64 v4),(.int .i64 v5)])])),(7,(.int .i64 v6)),(8,(.int .i64 s))],[])) g4l1_F):=by
  simp (maxSteps:=2000000) (maxDischargeDepth:=8) -implicitDefEqProofs [g4l1_cb,slices_IndexFunc_impl_Page_impl_Page__Super_inArea_c1_l1_b] <;> (try simp only [map_to_bind,some_elim,g4l1_F])
def slices_IndexFunc_impl_Page_impl_Page__Super_inArea_c1_l1 (v1:List (Int × Str)) (v2:Int) (v3:Int) (v4:Int) (v5:Int) (v6:Int) (s:Int):Option ((Unit) ⊕ (Int)):=loopO (fun s=>slices_IndexFunc_impl_Page_impl_Page__Super_inArea_c1_l1_b v1 v2 v3 v4 v5 v6 s) s
@[simp] theorem g4l1_eq (y0 y1 y2 y3 y4 y5 y6):X g4_S g4l1_c [(0,(.vs (rows y0))),(1,(.fn 111 [] [(.vp [(.int .i64 y1),(.int .i64 y2),(.int .i64 y3),(.int .i64 y4)])])),(7,(.int .i64 y5)),(8,(.int .i64 y6))] [] = (slices_IndexFunc_impl_Page_impl_Page__Super_inArea_c1_l1 y0 y1 y2 y3 y4 y5 y6).map g4l1_F:=by
  exact loop_X _ _ _ _ (by intro r; first | (simp; done) | (rcases r with r | r <;> simp; done) | (rcases r with r | r | r <;> simp; done) | (rcases r with r | r | r | r <;> simp)) (fun s=>g4l1_b_eq  y0 y1 y2 y3 y4 y5 s) y6
def slices_IndexFunc_impl_Page_impl_Page__Super_inArea_c1 (a_s:List (Int × Str)) (a_f:Int) (a_f':Int) (a_f'':Int) (a_f''':Int):Option (Int):=(slices_IndexFunc_impl_Page_impl_Page__Super_inArea_c1_l1 a_s a_f a_f' a_f'' a_f''' ((a_s.length:Int)) 0).bind fun r10=>Sum.elim (fun u11=>some ((-1))) (fun u12=>some u12) r10
@[simp] def g4_O:Int → TV × List Blk:=fun r=>((.int .i64 r),[])
def g4_E (a:(List (Int × Str)) × Int × Int × Int × Int):List TV:=[(.vs (rows a.1)),(.fn 111 [] [(.vp [(.int .i64 a.2.1),(.int .i64 a.2.2.1),(.int .i64 a.2.2.2.1),(.int .i64 a.2.2.2.2)])])]
theorem g4_run (a_s:List (Int × Str)) (a_f:Int) (a_f':Int) (a_f'':Int) (a_f''':Int) :callFn (X g4_S) g4_tf (g4_E (a_s,a_f,a_f',a_f'',a_f''')) [] = (slices_IndexFunc_impl_Page_impl_Page__Super_inArea_c1 a_s a_f a_f' a_f'' a_f''').map g4_O:=by
  rw [callFn_eq]
  simp (maxSteps:=2000000) (maxDischargeDepth:=8) -implicitDefEqProofs [g4_tf,slices_IndexFunc_impl_Page_impl_Page__Super_inArea_c1,g4_E] <;> (try simp only [map_to_bind,some_elim,g4_O])
def g4_r:Rule:=RlO g4_E (fun a=>slices_IndexFunc_impl_Page_impl_Page__Super_inArea_c1 a.1 a.2.1 a.2.2.1 a.2.2.2.1 a.2.2.2.2) g4_O
theorem g4_ok:RuleOk Tryz.prog 138 g4_r:=ok_rlo (S:=g4_S) (tf:=g4_tf) (SysOk.on ⟨g22_ok,trivial⟩ trivial) (trE_ok (ks:=[[0,1,7,8]]) Tryz.func138 (by kernel_rfl)) fun a=>g4_run a.1 a.2.1 a.2.2.1 a.2.2.2.1 a.2.2.2.2
@[simp] theorem g4_app (y0 y1 y2 y3 y4):g4_r [(.vs (rows y0)),(.fn 111 [] [(.vp [(.int .i64 y1),(.int .i64 y2),(.int .i64 y3),(.int .i64 y4)])])] = (slices_IndexFunc_impl_Page_impl_Page__Super_inArea_c1 y0 y1 y2 y3 y4).map g4_O :=
  RlO_app (enc:=g4_E) (by intro a b h; simp [g4_E,Prod.ext_iff] at h ⊢; simp [h]) (y0,y1,y2,y3,y4)
/-! slices.ContainsFunc[[]impl.Page,impl.Page] -/
def g3_tf:TFn:=⟨(sq [mk 4 (kb false)] [0,1] (.seq (.ops [mo 5 0,mo 6 1,ca 7 138 [.t 5,.t 6],bn 8 .geq (.t 7) (ki 0),mo 4 8]) (.keep (kp [(4,0)] [] 0) .ret))),[.t 4]⟩
abbrev g3_S:=Sys.on [(138,g4_r)] []
def slices_ContainsFunc_impl_Page_impl_Page__Super_inArea_c1 (a_s:List (Int × Str)) (a_f:Int) (a_f':Int) (a_f'':Int) (a_f''':Int):Option (Bool):=(slices_IndexFunc_impl_Page_impl_Page__Super_inArea_c1 a_s a_f a_f' a_f'' a_f''').bind fun r1=>some ((decide (r1 ≥ 0)))
@[simp] def g3_O:Bool → TV × List Blk:=fun r=>((.bool r),[])
def g3_E (a:(List (Int × Str)) × Int × Int × Int × Int):List TV:=[(.vs (rows a.1)),(.fn 111 [] [(.vp [(.int .i64 a.2.1),(.int .i64 a.2.2.1),(.int .i64 a.2.2.2.1),(.int .i64 a.2.2.2.2)])])]
theorem g3_run (a_s:List (Int × Str)) (a_f:Int) (a_f':Int) (a_f'':Int) (a_f''':Int) :callFn (X g3_S) g3_tf (g3_E (a_s,a_f,a_f',a_f'',a_f''')) [] = (slices_ContainsFunc_impl_Page_impl_Page__Super_inArea_c1 a_s a_f a_f' a_f'' a_f''').map g3_O:=by
  rw [callFn_eq]
  simp (maxSteps:=2000000) (maxDischargeDepth:=8) -implicitDefEqProofs [g3_tf,slices_ContainsFunc_impl_Page_impl_Page__Super_inArea_c1,g3_E] <;> (try simp only [map_to_bind,some_elim,g3_O])
def g3_r:Rule:=RlO g3_E (fun a=>slices_ContainsFunc_impl_Page_impl_Page__Super_inArea_c1 a.1 a.2.1 a.2.2.1 a.2.2.2.1 a.2.2.2.2) g3_O
theorem g3_ok:RuleOk Tryz.prog 110 g3_r:=ok_rlo (S:=g3_S) (tf:=g3_tf) (SysOk.on ⟨g4_ok,trivial⟩ trivial) (trE_ok (ks:=[]) Tryz.func110 (by kernel_rfl)) fun a=>g3_run a.1 a.2.1 a.2.2.1 a.2.2.2.1 a.2.2.2.2
@[simp] theorem g3_app (y0 y1 y2 y3 y4):g3_r [(.vs (rows y0)),(.fn 111 [] [(.vp [(.int .i64 y1),(.int .i64 y2),(.int .i64 y3),(.int .i64 y4)])])] = (slices_ContainsFunc_impl_Page_impl_Page__Super_inArea_c1 y0 y1 y2 y3 y4).map g3_O :=
  RlO_app (enc:=g3_E) (by intro a b h; simp [g3_E,Prod.ext_iff] at h ⊢; simp [h]) (y0,y1,y2,y3,y4)
/-! (impl.Super).inArea -/
def g33_tf:TFn:=⟨(sq [bx 2 0,mk 4 (kb false)] [1,2] (.seq (.ops [mo 5 1,oo 6 (.mkfn 111 [] [.t 2]),ca 7 110 [.t 5,.t 6],nt 8 7,mo 4 8]) (.keep (kp [(4,0)] [] 0) .ret))),[.t 4]⟩
abbrev g33_S:=Sys.on [(110,g3_r)] []
def impl_Super_inArea (a_s:Int × Int × Int × Int) (a_list:List (Int × Str)):Option (Bool):=(slices_ContainsFunc_impl_Page_impl_Page__Super_inArea_c1 a_list a_s.1 a_s.2.1 a_s.2.2.1 a_s.2.2.2).bind fun r1=>some ((!r1))
@[simp] def g33_O:Bool → TV × List Blk:=fun r=>((.bool r),[])
def g33_E (a:(Int × Int × Int × Int) × (List (Int × Str))):List TV:=[(.agg [(.int .i64 a.1.1),(.int .i64 a.1.2.1),(.int .i64 a.1.2.2.1),(.int .i64 a.1.2.2.2)]),(.vs (rows a.2))]
theorem g33_run (a_s:Int × Int × Int × Int) (a_list:List (Int × Str)) :callFn (X g33_S) g33_tf (g33_E (a_s,a_list)) [] = (impl_Super_inArea a_s a_list).map g33_O:=by
  rw [callFn_eq]
  simp (maxSteps:=2000000) (maxDischargeDepth:=8) -implicitDefEqProofs [g33_tf,impl_Super_inArea,g33_E] <;> (try simp only [map_to_bind,some_elim,g33_O])
def g33_r:Rule:=RlO g33_E (fun a=>impl_Super_inArea a.1 a.2) g33_O
theorem g33_ok:RuleOk Tryz.prog 70 g33_r:=ok_rlo (S:=g33_S) (tf:=g33_tf) (SysOk.on ⟨g3_ok,trivial⟩ trivial) (trE_ok (ks:=[]) Tryz.func70 (by kernel_rfl)) fun a=>g33_run a.1 a.2
@[simp] theorem g33_app (y0 y1 y2 y3 y4):g33_r [(.agg [(.int .i64 y0),(.int .i64 y1),(.int .i64 y2),(.int .i64 y3)]),(.vs (rows y4))] = (impl_Super_inArea ((y0,y1,y2,y3)) y4).map g33_O :=
  RlO_app (enc:=g33_E) (by intro a b h; simp [g33_E,Prod.ext_iff] at h ⊢; simp [h]) ((y0,y1,y2,y3),y4)
/-! impl.tableBlocks -/
def g43_tf:TFn:=⟨(sq [mk 2 (ki 0)] [0] (.seq (.ops [mo 3 0,bn 4 .mul (ki 2) (.t 3),bn 5 .add (.t 4) (ki 64),bn 6 .sub (.t 5) (ki 1),bn 7 .quo (.t 6) (ki 64),mo 2 7]) (.keep (kp [(2,0)] [] 0) .ret))),[.t 2]⟩
abbrev g43_S:=Sys.on [] []
def impl_tableBlocks (a_pages:Int):Option (Int):=some ((IntKind.i64.wrap (Int.tdiv ((IntKind.i64.wrap ((IntKind.i64.wrap ((IntKind.i64.wrap (2 * a_pages)) + 64)) - 1))) 64)))
@[simp] def g43_O:Int → TV × List Blk:=fun r=>((.int .i64 r),[])
def g43_E (a:Int):List TV:=[(.int .i64 a)]
theorem g43_run (a_pages:Int) :callFn (X g43_S) g43_tf (g43_E a_pages) [] = (impl_tableBlocks a_pages).map g43_O:=by
  rw [callFn_eq]
  simp (maxSteps:=2000000) (maxDischargeDepth:=8) -implicitDefEqProofs [g43_tf,impl_tableBlocks,g43_E] <;> (try simp only [map_to_bind,some_elim,g43_O])
def g43_r:Rule:=RlO g43_E (fun a=>impl_tableBlocks a) g43_O
theorem g43_ok:RuleOk Tryz.prog 139 g43_r:=ok_rlo (S:=g43_S) (tf:=g43_tf) (SysOk.on trivial trivial) (trE_ok (ks:=[]) Tryz.func139 (by kernel_rfl)) fun a=>g43_run a
@[simp] theorem g43_app (y0):g43_r [(.int .i64 y0)] = (impl_tableBlocks y0).map g43_O :=
  RlO_app (enc:=g43_E) (by intro a b h; simp [g43_E,Prod.ext_iff] at h ⊢; simp [h]) y0
/-! impl.RecordBlocks -/
def g34_tf:TFn:=⟨(sq [mk 2 (ki 0)] [0] (.seq (sq [mo 3 0,ca 4 68 [.t 3,ki 1,ki 60],nt 5 4] [0,5] (.cond (.t 5) (.seq (.ops [mk 2 (ki 0)]) (.keep (kp [(2,0)] [] 0) .ret)) .skip)) (.trim [0] (.seq (.ops [mo 6 0,ca 7 139 [.t 6],bn 8 .add (ki 1) (.t 7),mo 9 0,bn 10 .add (.t 8) (.t 9),mo 2 10]) (.keep (kp [(2,0)] [] 0) .ret))))),[.t 2]⟩
abbrev g34_S:=Sys.on [(68,g110_r),(139,g43_r)] []
def impl_RecordBlocks (a_pages:Int):Option (Int):=(impl_within a_pages 1 60).bind fun r1=>if ¬(r1 = true) then some 0 else (impl_tableBlocks a_pages).bind fun r2=>some ((IntKind.i64.wrap ((IntKind.i64.wrap (1 + r2)) + a_pages)))
@[simp] def g34_O:Int → TV × List Blk:=fun r=>((.int .i64 r),[])
def g34_E (a:Int):List TV:=[(.int .i64 a)]
theorem g34_run (a_pages:Int) :callFn (X g34_S) g34_tf (g34_E a_pages) [] = (impl_RecordBlocks a_pages).map g34_O:=by
  rw [callFn_eq]
  simp (maxSteps:=2000000) (maxDischargeDepth:=8) -implicitDefEqProofs [g34_tf,impl_RecordBlocks,g34_E] <;> (try simp only [map_to_bind,some_elim,g34_O])
def g34_r:Rule:=RlO g34_E (fun a=>impl_RecordBlocks a) g34_O
theorem g34_ok:RuleOk Tryz.prog 113 g34_r:=ok_rlo (S:=g34_S) (tf:=g34_tf) (SysOk.on ⟨g110_ok,g43_ok,trivial⟩ trivial) (trE_ok (ks:=[]) Tryz.func113 (by kernel_rfl)) fun a=>g34_run a
@[simp] theorem g34_app (y0):g34_r [(.int .i64 y0)] = (impl_RecordBlocks y0).map g34_O :=
  RlO_app (enc:=g34_E) (by intro a b h; simp [g34_E,Prod.ext_iff] at h ⊢; simp [h]) y0
/-! (impl.Super).fits -/
def g51_tf:TFn:=⟨(sq [bx 2 0,mk 4 (kb false)] [1,2] (.seq (.after (.draw [([],mo 5 1),([0],bn 6 .leq (.t 5) (ki 60)),([0,1],mo 7 6),([0,1,2],⟨(some 8),(some (7,true)),(.mv (.t 1))⟩),([0,1,2,3],⟨(some 9),(some (7,true)),(.call 113 [.t 8])⟩),([0,1,2],⟨(some 10),(some (7,true)),(.faddr 1 (.t 2))⟩),([0,1,2,5],⟨(some 11),(some (7,true)),(.load none (.t 10))⟩)] [⟨(some 12),(some (7,true)),(.bin .num .leq (.t 9) (.t 11))⟩,pk 13 (.t 7) (.t 12) (kb false),mo 4 13]) (kp [(4,0)] [] 0)) (.keep (kp [(4,0)] [] 0) .ret))),[.t 4]⟩
abbrev g51_S:=Sys.on [(113,g34_r)] []
def impl_Super_fits (a_s:Int × Int × Int × Int) (a_pages:Int):Option (Bool):=if a_pages ≤ 60 then (impl_RecordBlocks a_pages).bind fun r1=>some ((decide (r1 ≤ a_s.2.1))) else some false
@[simp] def g51_O:Bool → TV × List Blk:=fun r=>((.bool r),[])
def g51_E (a:(Int × Int × Int × Int) × Int):List TV:=[(.agg [(.int .i64 a.1.1),(.int .i64 a.1.2.1),(.int .i64 a.1.2.2.1),(.int .i64 a.1.2.2.2)]),(.int .i64 a.2)]
theorem g51_run (a_s:Int × Int × Int × Int) (a_pages:Int) :callFn (X g51_S) g51_tf (g51_E (a_s,a_pages)) [] = (impl_Super_fits a_s a_pages).map g51_O:=by
  rw [callFn_eq]
  simp (maxSteps:=2000000) (maxDischargeDepth:=8) -implicitDefEqProofs [g51_tf,impl_Super_fits,g51_E] <;> (try simp only [map_to_bind,some_elim,g51_O])
def g51_r:Rule:=RlO g51_E (fun a=>impl_Super_fits a.1 a.2) g51_O
theorem g51_ok:RuleOk Tryz.prog 71 g51_r:=ok_rlo (S:=g51_S) (tf:=g51_tf) (SysOk.on ⟨g34_ok,trivial⟩ trivial) (trE_ok (ks:=[[7]]) Tryz.func71 (by kernel_rfl)) fun a=>g51_run a.1 a.2
@[simp] theorem g51_app (y0 y1 y2 y3 y4):g51_r [(.agg [(.int .i64 y0),(.int .i64 y1),(.int .i64 y2),(.int .i64 y3)]),(.int .i64 y4)] = (impl_Super_fits ((y0,y1,y2,y3)) y4).map g51_O :=
  RlO_app (enc:=g51_E) (by intro a b h; simp [g51_E,Prod.ext_iff] at h ⊢; simp [h]) ((y0,y1,y2,y3),y4)
/-! impl.ValidPager -/
def g52p1_c:TC:=(.seq (.after (.ops [fa 40 10 1,ld 41 40,ca 42 69 [.t 41],mo 43 42,⟨(some 44),(some (43,true)),(.faddr 11 (.t 1))⟩,⟨(some 45),(some (43,true)),(.load none (.t 44))⟩,⟨(some 46),(some (43,true)),(.call 69 [.t 45])⟩,pk 47 (.t 43) (.t 46) (kb false),mo 48 47,⟨(some 49),(some (48,true)),(.faddr 4 (.t 1))⟩,⟨(some 50),(some (48,true)),(.load (some 4) (.t 49))⟩,⟨(some 51),(some (48,true)),(.faddr 10 (.t 1))⟩,⟨(some 52),(some (48,true)),(.load none (.t 51))⟩,⟨(some 53),(some (48,true)),(.call 70 [.t 50,.t 52])⟩,pk 54 (.t 48) (.t 53) (kb false),mo 55 54,⟨(some 56),(some (55,true)),(.faddr 4 (.t 1))⟩,⟨(some 57),(some (55,true)),(.load (some 4) (.t 56))⟩,⟨(some 58),(some (55,true)),(.faddr 11 (.t 1))⟩,⟨(some 59),(some (55,true)),(.load none (.t 58))⟩,⟨(some 60),(some (55,true)),(.call 70 [.t 57,.t 59])⟩,pk 61 (.t 55) (.t 60) (kb false),mo 62 61,⟨(some 63),(some (62,true)),(.faddr 4 (.t 1))⟩,⟨(some 64),(some (62,true)),(.load (some 4) (.t 63))⟩,⟨(some 65),(some (62,true)),(.faddr 11 (.t 1))⟩,⟨(some 66),(some (62,true)),(.load none (.t 65))⟩,⟨(some 67),(some (62,true)),(.len false (.t 66))⟩,⟨(some 68),(some (62,true)),(.call 71 [.t 64,.t 67])⟩,pk 69 (.t 62) (.t 68) (kb false),mo 2 69]) (kp [(2,0)] [] 0)) (.keep (kp [(2,0)] [] 0) .ret))
def g52_tf:TFn:=⟨(sq [bx 1 0,mk 2 (kb false)] [1] (.seq (sq [fa 3 0 1,ln 4 4 3,fa 5 4 1,ln 6 4 5,ca 7 67 [.t 4,.t 6],nt 8 7,mo 9 8,⟨(some 10),(some (9,false)),(.faddr 0 (.t 1))⟩,⟨(some 11),(some (9,false)),(.faddr 1 (.t 10))⟩,⟨(some 12),(some (9,false)),(.load none (.t 11))⟩,⟨(some 13),(some (9,false)),(.len false (.t 12))⟩,⟨(some 14),(some (9,false)),(.bin .num .gtr (.t 13) (ki 1))⟩,⟨(some 15),(some (9,false)),(.mv (.t 14))⟩,⟨(some 16),(some (15,true)),(.faddr 0 (.t 1))⟩,⟨(some 17),(some (15,true)),(.faddr 3 (.t 16))⟩,⟨(some 18),(some (15,true)),(.load none (.t 17))⟩,⟨(some 19),(some (15,true)),(.un .not (.t 18))⟩,⟨(some 20),(some (9,false)),(.pick (.t 15) (.t 19) (kb false))⟩,pk 21 (.t 9) (kb true) (.t 20),mo 22 21,⟨(some 23),(some (22,false)),(.faddr 8 (.t 1))⟩,⟨(some 24),(some (22,false)),(.load none (.t 23))⟩,⟨(some 25),(some (22,false)),(.faddr 4 (.t 1))⟩,⟨(some 26),(some (22,false)),(.faddr 2 (.t 25))⟩,⟨(some 27),(some (22,false)),(.load none (.t 26))⟩,⟨(some 28),(some (22,false)),(.call 68 [.t 24,.t 27,ki 1000000000000])⟩,⟨(some 29),(some (22,false)),(.un .not (.t 28))⟩,pk 30 (.t 22) (kb true) (.t 29),mo 31 30,⟨(some 32),(some (31,false)),(.faddr 9 (.t 1))⟩,⟨(some 33),(some (31,false)),(.load none (.t 32))⟩,⟨(some 34),(some (31,false)),(.faddr 4 (.t 1))⟩,⟨(some 35),(some (31,false)),(.faddr 1 (.t 34))⟩,⟨(some 36),(some (31,false)),(.load none (.t 35))⟩,⟨(some 37),(some (31,false)),(.call 68 [.t 33,ki 0,.t 36])⟩,⟨(some 38),(some (31,false)),(.un .not (.t 37))⟩,pk 39 (.t 31) (kb true) (.t 38)] [1,39] (.cond (.t 39) (.seq (.ops [mk 2 (kb false)]) (.keep (kp [(2,0)] [] 0) .ret)) (.keep (kp [(1,0)] [(0,0)] 0) .skip))) (.trim [1] g52p1_c))),[.t 2]⟩
abbrev g52_S:=Sys.on [(67,g65_r),(68,g110_r),(69,g50_r),(70,g33_r),(71,g51_r)] []
@[reducible,simp] def g52p1_F:Bool → Out:=(fun t=>(.ret,[(2,(.bool t))],[]))
def impl_ValidPager_p1 (v6:K1):Option (Bool):=(impl_ValidPages v6.2.2.2.2.1).bind fun r7=>if r7 = true then (impl_ValidPages v6.2.2.2.2.2).bind fun r8=>if r8 = true then (impl_Super_inArea v6.2.1 v6.2.2.2.2.1).bind fun r9=>if r9 = true then (impl_Super_inArea v6.2.1 v6.2.2.2.2.2).bind fun r10=>if r10 = true then (impl_Super_fits v6.2.1 ((v6.2.2.2.2.2.length:Int))).bind fun r11=>some r11 else some false else some false else some false else some false
@[simp] theorem g52p1_eq (y0 y1 y2 y3 y4 y5 y6 y7 y8 y9 y10 y11):X g52_S g52p1_c [(1,(.ptr 0 0 0))] [(.live 12 [[(.vs (rows y0)),(.vs (rows y1)),(.int .i64 y2),(.bool y3),(.int .i64 y4),(.int .i64 y5),(.int .i64 y6),(.int .i64 y7),(.int .i64 y8),(.int .i64 y9),(.vs (rows y10)),(.vs (rows y11))]])] = (impl_ValidPager_p1 (((y0,y1,y2,y3),(y4,y5,y6,y7),y8,y9,y10,y11))).map g52p1_F:=by
  simp (maxSteps:=2000000) (maxDischargeDepth:=8) -implicitDefEqProofs [g52p1_c,impl_ValidPager_p1] <;> (try simp only [map_to_bind,some_elim,g52p1_F])
def impl_ValidPager (a_p:K1):Option (Bool):=(impl_superFits a_p.1 a_p.2.1).bind fun r1=>if ¬(r1 = true) then some false else if (a_p.1.2.1.length:Int) > 1 then if ¬(a_p.1.2.2.2 = true) then some false else (impl_within a_p.2.2.1 a_p.2.1.2.2.1 1000000000000).bind fun r2=>if ¬(r2 = true) then some false else (impl_within a_p.2.2.2.1 0 a_p.2.1.2.1).bind fun r3=>if ¬(r3 = true) then some false else (impl_ValidPager_p1 a_p).bind fun r12=>some r12 else (impl_within a_p.2.2.1 a_p.2.1.2.2.1 1000000000000).bind fun r4=>if ¬(r4 = true) then some false else (impl_within a_p.2.2.2.1 0 a_p.2.1.2.1).bind fun r5=>if ¬(r5 = true) then some false else (impl_ValidPager_p1 a_p).bind fun r13=>some r13
@[simp] def g52_O:Bool → TV × List Blk:=fun r=>((.bool r),[])
def g52_E (a:K1):List TV:=[(.agg [(.vs (rows a.1.1)),(.vs (rows a.1.2.1)),(.int .i64 a.1.2.2.1),(.bool a.1.2.2.2),(.int .i64 a.2.1.1),(.int .i64 a.2.1.2.1),(.int .i64 a.2.1.2.2.1),(.int .i64 a.2.1.2.2.2),(.int .i64 a.2.2.1),(.int .i64 a.2.2.2.1),(.vs (rows a.2.2.2.2.1)),(.vs (rows a.2.2.2.2.2))])]
theorem g52_run (a_p:K1) :callFn (X g52_S) g52_tf (g52_E a_p) [] = (impl_ValidPager a_p).map g52_O:=by
  rw [callFn_eq]
  simp (maxSteps:=2000000) (maxDischargeDepth:=8) -implicitDefEqProofs [g52_tf,impl_ValidPager,g52_E] <;> (try simp only [map_to_bind,some_elim,g52_O])
def g52_r:Rule:=RlO g52_E (fun a=>impl_ValidPager a) g52_O
theorem g52_ok:RuleOk Tryz.prog 30 g52_r:=ok_rlo (S:=g52_S) (tf:=g52_tf) (SysOk.on ⟨g65_ok,g110_ok,g50_ok,g33_ok,g51_ok,trivial⟩ trivial) (trE_ok (ks:=[]) Tryz.func30 (by kernel_rfl)) fun a=>g52_run a
@[simp] theorem g52_app (y0 y1 y2 y3 y4 y5 y6 y7 y8 y9 y10 y11):g52_r [(.agg [(.vs (rows y0)),(.vs (rows y1)),(.int .i64 y2),(.bool y3),(.int .i64 y4),(.int .i64 y5),(.int .i64 y6),(.int .i64 y7),(.int .i64 y8),(.int .i64 y9),(.vs (rows y10)),(.vs (rows y11))])] = (impl_ValidPager (((y0,y1,y2,y3),(y4,y5,y6,y7),y8,y9,y10,y11))).map g52_O :=
  RlO_app (enc:=g52_E) (by intro a b h; simp [g52_E,Prod.ext_iff] at h ⊢; simp [h]) (((y0,y1,y2,y3),(y4,y5,y6,y7),y8,y9,y10,y11))
/-! (*impl.Pager).area -/
def g53_tf:TFn:=⟨(sq [mk 2 (ki 0)] [0] (.seq (.ops [mo 3 0,nk 4 3,fa 5 4 4,fa 6 1 5,ld 7 6,bn 8 .add (ki 2) (.t 7),mo 2 8]) (.keep (kp [(2,0)] [] 0) .ret))),[.t 2]⟩
abbrev g53_S:=Sys.on [] []
def impl_Pager_area (a_p:K1):Option (Int):=some ((IntKind.i64.wrap (2 + a_p.2.1.2.1)))
@[simp] def g53_O:Int → TV × List Blk:=fun r=>((.int .i64 r),[])
def g53_E (a:K1 × List TV):List TV:=[(.vp ((.vs (rows a.1.1.1))::(.vs (rows a.1.1.2.1))::(.int .i64 a.1.1.2.2.1)::(.bool a.1.1.2.2.2)::(.int .i64 a.1.2.1.1)::(.int .i64 a.1.2.1.2.1)::(.int .i64 a.1.2.1.2.2.1)::(.int .i64 a.1.2.1.2.2.2)::(.int .i64 a.1.2.2.1)::(.int .i64 a.1.2.2.2.1)::(.vs (rows a.1.2.2.2.2.1))::(.vs (rows a.1.2.2.2.2.2))::a.2))]
theorem g53_run (a_p:K1) (q0:List TV):callFn (X g53_S) g53_tf (g53_E (a_p,q0)) [] = (impl_Pager_area a_p).map g53_O:=by
  rw [callFn_eq]
  simp (maxSteps:=2000000) (maxDischargeDepth:=8) -implicitDefEqProofs [g53_tf,impl_Pager_area,g53_E] <;> (try simp only [map_to_bind,some_elim,g53_O])
def g53_r:Rule:=RlO g53_E (fun a=>impl_Pager_area a.1) g53_O
theorem g53_ok:RuleOk Tryz.prog 115 g53_r:=ok_rlo (S:=g53_S) (tf:=g53_tf) (SysOk.on trivial trivial) (trE_ok (ks:=[]) Tryz.func115 (by kernel_rfl)) fun a=>g53_run a.1 a.2
@[simp] theorem g53_app (y0 y1 y2 y3 y4 y5 y6 y7 y8 y9 y10 y11)(q0:List TV):g53_r [(.vp ((.vs (rows y0))::(.vs (rows y1))::(.int .i64 y2)::(.bool y3)::(.int .i64 y4)::(.int .i64 y5)::(.int .i64 y6)::(.int .i64 y7)::(.int .i64 y8)::(.int .i64 y9)::(.vs (rows y10))::(.vs (rows y11))::q0))] = (impl_Pager_area (((y0,y1,y2,y3),(y4,y5,y6,y7),y8,y9,y10,y11))).map g53_O :=
  RlO_app (enc:=g53_E) (by intro a b h; simp [g53_E,Prod.ext_iff] at h ⊢; simp [h]) (((y0,y1,y2,y3),(y4,y5,y6,y7),y8,y9,y10,y11),q0)
/-! (*impl.Pager).isData -/
def g35_tf:TFn:=⟨(sq [mk 6 (kb false)] [0,1,2] (.seq (.after (.ops [mo 7 1,mo 8 0,ca 9 115 [.t 8],bn 10 .gtr (.t 7) (.t 9),mo 11 10,⟨(some 12),(some (11,true)),(.mv (.t 2))⟩,⟨(some 13),(some (11,true)),(.mv (.t 0))⟩,⟨(some 14),(some (11,true)),(.nilchk (.t 13))⟩,⟨(some 15),(some (11,true)),(.faddr 4 (.t 14))⟩,⟨(some 16),(some (11,true)),(.faddr 0 (.t 15))⟩,⟨(some 17),(some (11,true)),(.load none (.t 16))⟩,⟨(some 18),(some (11,true)),(.bin .num .leq (.t 12) (.t 17))⟩,pk 19 (.t 11) (.t 18) (kb false),mo 20 19,⟨(some 21),(some (20,true)),(.mv (.t 1))⟩,⟨(some 22),(some (20,true)),(.mv (.t 0))⟩,⟨(some 23),(some (20,true)),(.nilchk (.t 22))⟩,⟨(some 24),(some (20,true)),(.faddr 4 (.t 23))⟩,⟨(some 25),(some (20,true)),(.faddr 0 (.t 24))⟩,⟨(some 26),(some (20,true)),(.load none (.t 25))⟩,⟨(some 27),(some (20,true)),(.mv (.t 2))⟩,⟨(some 28),(some (20,true)),(.bin .num .sub (.t 26) (.t 27))⟩,⟨(some 29),(some (20,true)),(.bin .num .leq (.t 21) (.t 28))⟩,pk 30 (.t 20) (.t 29) (kb false),mo 6 30]) (kp [(6,0)] [] 0)) (.keep (kp [(6,0)] [] 0) .ret))),[.t 6]⟩
abbrev g35_S:=Sys.on [(115,g53_r)] []
def impl_Pager_isData (a_p:K1) (a_at:Int) (a_n:Int):Option (Bool):=(impl_Pager_area a_p).bind fun r1=>if a_at > r1 then if a_n ≤ a_p.2.1.1 then some ((decide (a_at ≤ (IntKind.i64.wrap (a_p.2.1.1 - a_n))))) else some false else some false
@[simp] def g35_O:Bool → TV × List Blk:=fun r=>((.bool r),[])
def g35_E (a:K1 × Int × Int × List TV):List TV:=[(.vp ((.vs (rows a.1.1.1))::(.vs (rows a.1.1.2.1))::(.int .i64 a.1.1.2.2.1)::(.bool a.1.1.2.2.2)::(.int .i64 a.1.2.1.1)::(.int .i64 a.1.2.1.2.1)::(.int .i64 a.1.2.1.2.2.1)::(.int .i64 a.1.2.1.2.2.2)::(.int .i64 a.1.2.2.1)::(.int .i64 a.1.2.2.2.1)::(.vs (rows a.1.2.2.2.2.1))::(.vs (rows a.1.2.2.2.2.2))::a.2.2.2)),(.int .i64 a.2.1),(.int .i64 a.2.2.1)]
theorem g35_run (a_p:K1) (a_at:Int) (a_n:Int) (q0:List TV):callFn (X g35_S) g35_tf (g35_E (a_p,a_at,a_n,q0)) [] = (impl_Pager_isData a_p a_at a_n).map g35_O:=by
  rw [callFn_eq]
  simp (maxSteps:=2000000) (maxDischargeDepth:=8) -implicitDefEqProofs [g35_tf,impl_Pager_isData,g35_E] <;> (try simp only [map_to_bind,some_elim,g35_O])
def g35_r:Rule:=RlO g35_E (fun a=>impl_Pager_isData a.1 a.2.1 a.2.2.1) g35_O
theorem g35_ok:RuleOk Tryz.prog 114 g35_r:=ok_rlo (S:=g35_S) (tf:=g35_tf) (SysOk.on ⟨g53_ok,trivial⟩ trivial) (trE_ok (ks:=[]) Tryz.func114 (by kernel_rfl)) fun a=>g35_run a.1 a.2.1 a.2.2.1 a.2.2.2
@[simp] theorem g35_app (y0 y1 y2 y3 y4 y5 y6 y7 y8 y9 y10 y11 y12 y13)(q0:List TV):g35_r [(.vp ((.vs (rows y0))::(.vs (rows y1))::(.int .i64 y2)::(.bool y3)::(.int .i64 y4)::(.int .i64 y5)::(.int .i64 y6)::(.int .i64 y7)::(.int .i64 y8)::(.int .i64 y9)::(.vs (rows y10))::(.vs (rows y11))::q0)),(.int .i64 y12),(.int .i64 y13)] = (impl_Pager_isData (((y0,y1,y2,y3),(y4,y5,y6,y7),y8,y9,y10,y11)) y12 y13).map g35_O :=
  RlO_app (enc:=g35_E) (by intro a b h; simp [g35_E,Prod.ext_iff] at h ⊢; simp [h]) (((y0,y1,y2,y3),(y4,y5,y6,y7),y8,y9,y10,y11),y12,y13,q0)
/-! cmp.isNaN[int64] -/
def g54_tf:TFn:=⟨(sq [mk 2 (kb false)] [0] (.seq (.ops [mo 3 0,mo 4 0,bn 5 .neq (.t 3) (.t 4),mo 2 5]) (.keep (kp [(2,0)] [] 0) .ret))),[.t 2]⟩
abbrev g54_S:=Sys.on [] []
def cmp_isNaN_int64 (a_x:Int):Option (Bool):=some ((!decide (a_x = a_x)))
@[simp] def g54_O:Bool → TV × List Blk:=fun r=>((.bool r),[])
def g54_E (a:Int):List TV:=[(.int .i64 a)]
theorem g54_run (a_x:Int) :callFn (X g54_S) g54_tf (g54_E a_x) [] = (cmp_isNaN_int64 a_x).map g54_O:=by
  rw [callFn_eq]
  simp (maxSteps:=2000000) (maxDischargeDepth:=8) -implicitDefEqProofs [g54_tf,cmp_isNaN_int64,g54_E] <;> (try simp only [map_to_bind,some_elim,g54_O])
def g54_r:Rule:=RlO g54_E (fun a=>cmp_isNaN_int64 a) g54_O
theorem g54_ok:RuleOk Tryz.prog 161 g54_r:=ok_rlo (S:=g54_S) (tf:=g54_tf) (SysOk.on trivial trivial) (trE_ok (ks:=[]) Tryz.func161 (by kernel_rfl)) fun a=>g54_run a
@[simp] theorem g54_app (y0):g54_r [(.int .i64 y0)] = (cmp_isNaN_int64 y0).map g54_O :=
  RlO_app (enc:=g54_E) (by intro a b h; simp [g54_E,Prod.ext_iff] at h ⊢; simp [h]) y0
/-! cmp.Compare[int64] -/
def g36_tf:TFn:=⟨(sq [mk 4 (ki 0)] [0,1] (sq [mo 7 0,ca 8 161 [.t 7],mo 5 8] [0,1,5] (sq [mo 9 1,ca 10 161 [.t 9],mo 6 10] [0,1,5,6] (.seq (sq [mo 11 5] [0,1,6,11] (.cond (.t 11) (.seq (sq [mo 12 6] [12] (.cond (.t 12) (.seq (.ops [mk 4 (ki 0)]) (.keep (kp [(4,0)] [] 0) .ret)) .skip)) (.trim [] (.seq (.ops [mk 4 (ki (-1))]) (.keep (kp [(4,0)] [] 0) .ret)))) .skip)) (.trim [0,1,6] (.seq (sq [mo 13 6] [0,1,13] (.cond (.t 13) (.seq (.ops [mk 4 (ki 1)]) (.keep (kp [(4,0)] [] 0) .ret)) .skip)) (.trim [0,1] (.seq (sq [mo 14 0,mo 15 1,bn 16 .lss (.t 14) (.t 15)] [0,1,16] (.cond (.t 16) (.seq (.ops [mk 4 (ki (-1))]) (.keep (kp [(4,0)] [] 0) .ret)) .skip)) (.trim [0,1] (.seq (sq [mo 17 0,mo 18 1,bn 19 .gtr (.t 17) (.t 18)] [19] (.cond (.t 19) (.seq (.ops [mk 4 (ki 1)]) (.keep (kp [(4,0)] [] 0) .ret)) .skip)) (.trim [] (.seq (.ops [mk 4 (ki 0)]) (.keep (kp [(4,0)] [] 0) .ret))))))))))))),[.t 4]⟩
abbrev g36_S:=Sys.on [(161,g54_r)] []
def cmp_Compare_int64 (a_x:Int) (a_y:Int):Option (Int):=(cmp_isNaN_int64 a_x).bind fun r1=>(cmp_isNaN_int64 a_y).bind fun r2=>if r1 = true then if r2 = true then some 0 else some ((-1)) else if r2 = true then some 1 else if a_x < a_y then some ((-1)) else if a_x > a_y then some 1 else some 0
@[simp] def g36_O:Int → TV × List Blk:=fun r=>((.int .i64 r),[])
def g36_E (a:Int × Int):List TV:=[(.int .i64 a.1),(.int .i64 a.2)]
theorem g36_run (a_x:Int) (a_y:Int) :callFn (X g36_S) g36_tf (g36_E (a_x,a_y)) [] = (cmp_Compare_int64 a_x a_y).map g36_O:=by
  rw [callFn_eq]
  simp (maxSteps:=2000000) (maxDischargeDepth:=8) -implicitDefEqProofs [g36_tf,cmp_Compare_int64,g36_E] <;> (try simp only [map_to_bind,some_elim,g36_O])
def g36_r:Rule:=RlO g36_E (fun a=>cmp_Compare_int64 a.1 a.2) g36_O
theorem g36_ok:RuleOk Tryz.prog 145 g36_r:=ok_rlo (S:=g36_S) (tf:=g36_tf) (SysOk.on ⟨g54_ok,trivial⟩ trivial) (trE_ok (ks:=[]) Tryz.func145 (by kernel_rfl)) fun a=>g36_run a.1 a.2
@[simp] theorem g36_app (y0 y1):g36_r [(.int .i64 y0),(.int .i64 y1)] = (cmp_Compare_int64 y0 y1).map g36_O :=
  RlO_app (enc:=g36_E) (by intro a b h; simp [g36_E,Prod.ext_iff] at h ⊢; simp [h]) (y0,y1)
/-! impl.pageAt.1 -/
def g67_tf:TFn:=⟨(sq [bx 2 0,mk 4 (ki 0)] [1,2] (.seq (.ops [fa 5 0 2,ld 6 5,mo 7 1,ca 8 145 [.t 6,.t 7],mo 4 8]) (.keep (kp [(4,0)] [] 0) .ret))),[.t 4]⟩
abbrev g67_S:=Sys.on [(145,g36_r)] []
def impl_pageAt_c1 (a_p:Int × Str) (a_block:Int):Option (Int):=(cmp_Compare_int64 a_p.1 a_block).bind fun r1=>some r1
@[simp] def g67_O:Int → TV × List Blk:=fun r=>((.int .i64 r),[])
def g67_E (a:(Int × Str) × Int):List TV:=[(.agg [(.int .i64 a.1.1),(.str a.1.2)]),(.int .i64 a.2)]
theorem g67_run (a_p:Int × Str) (a_block:Int) :callFn (X g67_S) g67_tf (g67_E (a_p,a_block)) [] = (impl_pageAt_c1 a_p a_block).map g67_O:=by
  rw [callFn_eq]
  simp (maxSteps:=2000000) (maxDischargeDepth:=8) -implicitDefEqProofs [g67_tf,impl_pageAt_c1,g67_E] <;> (try simp only [map_to_bind,some_elim,g67_O])
def g67_r:Rule:=RlO g67_E (fun a=>impl_pageAt_c1 a.1 a.2) g67_O
theorem g67_ok:RuleOk Tryz.prog 144 g67_r:=ok_rlo (S:=g67_S) (tf:=g67_tf) (SysOk.on ⟨g36_ok,trivial⟩ trivial) (trE_ok (ks:=[]) Tryz.func144 (by kernel_rfl)) fun a=>g67_run a.1 a.2
@[simp] theorem g67_app (y0 y1 y2):g67_r [(.agg [(.int .i64 y0),(.str y1)]),(.int .i64 y2)] = (impl_pageAt_c1 ((y0,y1)) y2).map g67_O :=
  RlO_app (enc:=g67_E) (by intro a b h; simp [g67_E,Prod.ext_iff] at h ⊢; simp [h]) ((y0,y1),y2)
/-! slices.BinarySearchFunc[[]impl.Page,impl.Page,int64] -/
def g1l1_cb:TC:=(.seq (sq [mo 15 9,mo 16 10,bn 17 .lss (.t 15) (.t 16)] [0,1,2,8,9,10,17] (.cond (.t 17) .skip (.keep (kp [(0,0),(1,0),(2,0),(8,0),(9,0)] [] 0) (.exit 0)))) (.trim [0,1,2,8,9,10] (.block 1 (sq [mo 18 9,mo 19 10,bn 20 .add (.t 18) (.t 19),oo 21 (.conv (.toInt .u64) (.t 20)),oo 22 (.bin .num .shr (.t 21) (.c (.int .u64 1))),oo 23 (.conv (.toInt .i64) (.t 22)),mo 11 23] [0,1,2,8,9,10,11] (sq [mo 24 2,mo 25 0,mo 26 11,ia 27 2 25 26,ln 28 2 27,mo 29 1,oo 30 (.callv (.t 24) [.t 28,.t 29]),bn 31 .lss (.t 30) (ki 0)] [0,1,2,8,9,10,11,31] (.cond (.t 31) (.after (.ops [mo 32 11,bn 33 .add (.t 32) (ki 1),mo 9 33]) (kp [(0,0),(1,0),(2,0),(8,0),(9,0),(10,0)] [] 0)) (.after (.ops [mo 34 11,mo 10 34]) (kp [(0,0),(1,0),(2,0),(8,0),(9,0),(10,0)] [] 0))))))))
def g1l1_c:TC:=.loop [0,1,2,8,9,10] g1l1_cb
def g1_tf:TFn:=⟨(sq [mk 6 (ki 0),mk 7 (kb false)] [0,1,2] (sq [mo 12 0,le 13 12,mo 8 13] [0,1,2,8] (sq [mo 14 8,mk 9 (ki 0),mo 10 14] [0,1,2,8,9,10] (.seq (.block 0 (.keep (kp [(0,0),(1,0),(2,0),(8,0),(9,0),(10,0)] [] 0) g1l1_c)) (.trim [0,1,2,8,9] (.seq (.after (.ops [mo 35 9,mo 36 9,mo 37 8,bn 38 .lss (.t 36) (.t 37),mo 39 38,⟨(some 40),(some (39,true)),(.mv (.t 2))⟩,⟨(some 41),(some (39,true)),(.mv (.t 0))⟩,⟨(some 42),(some (39,true)),(.mv (.t 9))⟩,⟨(some 43),(some (39,true)),(.iaddr 2 (.t 41) (.t 42))⟩,⟨(some 44),(some (39,true)),(.load (some 2) (.t 43))⟩,⟨(some 45),(some (39,true)),(.mv (.t 1))⟩,⟨(some 46),(some (39,true)),(.callv (.t 40) [.t 44,.t 45])⟩,⟨(some 47),(some (39,true)),(.bin .num .eql (.t 46) (ki 0))⟩,pk 48 (.t 39) (.t 47) (kb false),mo 6 35,mo 7 48]) (kp [(6,0),(7,0)] [] 0)) (.keep (kp [(6,0),(7,0)] [] 0) .ret))))))),[.t 6,.t 7]⟩
abbrev g1_S:=Sys.on [(144,g67_r)] []
@[reducible,simp] def g1l1_F:((List (Int × Str)) × Int × Int × Int) → Out:=(fun t=>(.ext 0,[(0,(.vs (rows t.1))),(1,(.int .i64 t.2.1)),(2,(.fn 144 [] [])),(8,(.int .i64 t.2.2.1)),(9,(.int .i64 t.2.2.2))],[]))
def slices_BinarySearchFunc_impl_Page_impl_Page_int64__pageAt_c1_l1_b (v1:List (Int × Str)) (v2:Int) (v3:Int) (v4:Int) (v5:Int):Option ((Int × Int) ⊕ ((List (Int × Str)) × Int × Int × Int)):=if v4 < v5 then if 0 ≤ (IntKind.i64.wrap ((shrV .u64 ((IntKind.u64.wrap ((IntKind.i64.wrap (v4 + v5))))) 1))) then (v1[((IntKind.i64.wrap ((shrV .u64 ((IntKind.u64.wrap ((IntKind.i64.wrap (v4 + v5))))) 1)))).toNat]?).bind fun x6=>(impl_pageAt_c1 x6 v2).bind fun r7=>if r7 < 0 then some (.inl ((IntKind.i64.wrap ((IntKind.i64.wrap ((shrV .u64 ((IntKind.u64.wrap ((IntKind.i64.wrap (v4 + v5))))) 1))) + 1)),v5)) else some (.inl (v4,(IntKind.i64.wrap ((shrV .u64 ((IntKind.u64.wrap ((IntKind.i64.wrap (v4 + v5))))) 1))))) else none else some (.inr (v1,v2,v3,v4))
theorem g1l1_b_eq  (v1:List (Int × Str)) (v2:Int) (v3:Int) (v4:Int) (v5:Int):X g1_S g1l1_cb (keepEnv [0,1,2,8,9,10] [(0,(.vs (rows v1))),(1,(.int .i64 v2)),(2,(.fn 144 [] [])),(8,(.int .i64 v3)),(9,(.int .i64 v4)),(10,(.int .i64 v5))]) [] = (slices_BinarySearchFunc_impl_Page_impl_Page_int64__pageAt_c1_l1_b v1 v2 v3 v4 v5).map (Sum.elim (fun s=>(TX.nrm,[(0,(.vs (rows v1))),(1,(.int .i64 v2)),(2,(.fn 144 [] [])),(8,(.int .i64 v3)),(9,(.int .i64 s.1)),(10,(.int .i64 s.2))],[])) g1l1_F):=by
  simp (maxSteps:=2000000) (maxDischargeDepth:=8) -implicitDefEqProofs [g1l1_cb,slices_BinarySearchFunc_impl_Page_impl_Page_int64__pageAt_c1_l1_b] <;> (try simp only [map_to_bind,some_elim,g1l1_F])
def slices_BinarySearchFunc_impl_Page_impl_Page_int64__pageAt_c1_l1 (v1:List (Int × Str)) (v2:Int) (v3:Int) (s:Int × Int):Option ((List (Int × Str)) × Int × Int × Int):=loopO (fun s=>slices_BinarySearchFunc_impl_Page_impl_Page_int64__pageAt_c1_l1_b v1 v2 v3 s.1 s.2) s
@[simp] theorem g1l1_eq (y0 y1 y2 y3 y4):X g1_S g1l1_c [(0,(.vs (rows y0))),(1,(.int .i64 y1)),(2,(.fn 144 [] [])),(8,(.int .i64 y2)),(9,(.int .i64 y3)),(10,(.int .i64 y4))] [] = (slices_BinarySearchFunc_impl_Page_impl_Page_int64__pageAt_c1_l1 y0 y1 y2 (y3,y4)).map g1l1_F:=by
  exact loop_X _ _ _ _ (by intro r; first | (simp; done) | (rcases r with r | r <;> simp; done) | (rcases r with r | r | r <;> simp; done) | (rcases r with r | r | r | r <;> simp)) (fun s=>g1l1_b_eq  y0 y1 y2 s.1 s.2) (y3,y4)
def slices_BinarySearchFunc_impl_Page_impl_Page_int64__pageAt_c1 (a_x:List (Int × Str)) (a_target:Int):Option (Int × Bool):=(slices_BinarySearchFunc_impl_Page_impl_Page_int64__pageAt_c1_l1 a_x a_target ((a_x.length:Int)) ((0,(a_x.length:Int)))).bind fun r8=>if r8.2.2.2 < r8.2.2.1 then if 0 ≤ r8.2.2.2 then (r8.1[(r8.2.2.2).toNat]?).bind fun x9=>(impl_pageAt_c1 x9 r8.2.1).bind fun r10=>some (r8.2.2.2,(decide (r10 = 0))) else none else some (r8.2.2.2,false)
@[simp] def g1_O:(Int × Bool) → TV × List Blk:=fun r=>((.tup [(.int .i64 r.1),(.bool r.2)]),[])
def g1_E (a:(List (Int × Str)) × Int):List TV:=[(.vs (rows a.1)),(.int .i64 a.2),(.fn 144 [] [])]
theorem g1_run (a_x:List (Int × Str)) (a_target:Int) :callFn (X g1_S) g1_tf (g1_E (a_x,a_target)) [] = (slices_BinarySearchFunc_impl_Page_impl_Page_int64__pageAt_c1 a_x a_target).map g1_O:=by
  rw [callFn_eq]
  simp (maxSteps:=2000000) (maxDischargeDepth:=8) -implicitDefEqProofs [g1_tf,slices_BinarySearchFunc_impl_Page_impl_Page_int64__pageAt_c1,g1_E] <;> (try simp only [map_to_bind,some_elim,g1_O])
def g1_r:Rule:=RlO g1_E (fun a=>slices_BinarySearchFunc_impl_Page_impl_Page_int64__pageAt_c1 a.1 a.2) g1_O
theorem g1_ok:RuleOk Tryz.prog 143 g1_r:=ok_rlo (S:=g1_S) (tf:=g1_tf) (SysOk.on ⟨g67_ok,trivial⟩ trivial) (trE_ok (ks:=[[0,1,2,8,9,10]]) Tryz.func143 (by kernel_rfl)) fun a=>g1_run a.1 a.2
@[simp] theorem g1_app (y0 y1):g1_r [(.vs (rows y0)),(.int .i64 y1),(.fn 144 [] [])] = (slices_BinarySearchFunc_impl_Page_impl_Page_int64__pageAt_c1 y0 y1).map g1_O :=
  RlO_app (enc:=g1_E) (by intro a b h; simp [g1_E,Prod.ext_iff] at h ⊢; simp [h]) (y0,y1)
/-! impl.pageAt -/
def g111_tf:TFn:=⟨(sq [mk 4 (ki 0),mk 5 (kb false)] [0,1] (.seq (.ops [mo 6 0,mo 7 1,oo 8 (.call 143 [.t 6,.t 7,(.c (.fn 144 [] []))]),oo 9 (.ext (.t 8) 0),oo 10 (.ext (.t 8) 1),mo 4 9,mo 5 10]) (.keep (kp [(4,0),(5,0)] [] 0) .ret))),[.t 4,.t 5]⟩
abbrev g111_S:=Sys.on [(143,g1_r)] []
def impl_pageAt (a_list:List (Int × Str)) (a_block:Int):Option (Int × Bool):=(slices_BinarySearchFunc_impl_Page_impl_Page_int64__pageAt_c1 a_list a_block).bind fun r1=>some (r1.1,r1.2)
@[simp] def g111_O:(Int × Bool) → TV × List Blk:=fun r=>((.tup [(.int .i64 r.1),(.bool r.2)]),[])
def g111_E (a:(List (Int × Str)) × Int):List TV:=[(.vs (rows a.1)),(.int .i64 a.2)]
theorem g111_run (a_list:List (Int × Str)) (a_block:Int) :callFn (X g111_S) g111_tf (g111_E (a_list,a_block)) [] = (impl_pageAt a_list a_block).map g111_O:=by
  rw [callFn_eq]
  simp (maxSteps:=2000000) (maxDischargeDepth:=8) -implicitDefEqProofs [g111_tf,impl_pageAt,g111_E] <;> (try simp only [map_to_bind,some_elim,g111_O])
def g111_r:Rule:=RlO g111_E (fun a=>impl_pageAt a.1 a.2) g111_O
theorem g111_ok:RuleOk Tryz.prog 120 g111_r:=ok_rlo (S:=g111_S) (tf:=g111_tf) (SysOk.on ⟨g1_ok,trivial⟩ trivial) (trE_ok (ks:=[]) Tryz.func120 (by kernel_rfl)) fun a=>g111_run a.1 a.2
@[simp] theorem g111_app (y0 y1):g111_r [(.vs (rows y0)),(.int .i64 y1)] = (impl_pageAt y0 y1).map g111_O :=
  RlO_app (enc:=g111_E) (by intro a b h; simp [g111_E,Prod.ext_iff] at h ⊢; simp [h]) (y0,y1)
/-! (impl.Disk).read -/
def impl_Disk_read (d:K0) (k:Int):Option Str:=readD d k
noncomputable def g68_r:Rule:=read_r
theorem g68_ok:RuleOk Tryz.prog 146 g68_r:=read_ok
@[simp] theorem g68_app (y0 y1 y2 y3 y4):g68_r [.agg [.vs (rows y0),.vs (rows y1),.int .i64 y2,.bool y3],.int .i64 y4] = (impl_Disk_read (y0,y1,y2,y3) y4).map (fun r=>(.str r,[])):=read_app y0 y1 y2 y3 y4
/-! (*impl.Pager).committed -/
def g23_tf:TFn:=⟨(sq [mk 4 (.c (.str []))] [0,1] (.seq (sq [mo 8 0,nk 9 8,fa 10 10 9,ld 11 10,mo 12 1,ca 13 120 [.t 11,.t 12],mo 7 13,oo 14 (.ext (.t 7) 0),oo 15 (.ext (.t 7) 1),mo 5 14,mo 6 15] [0,1,5,6] (sq [mo 16 6] [0,1,5,16] (.cond (.t 16) (.seq (.ops [mo 17 0,nk 18 17,fa 19 10 18,ld 20 19,mo 21 5,ia 22 2 20 21,fa 23 1 22,ld 24 23,mo 4 24]) (.keep (kp [(4,0)] [] 0) .ret)) .skip))) (.trim [0,1] (.seq (.ops [mo 25 0,nk 26 25,fa 27 0 26,ln 28 4 27,mo 29 1,ca 30 146 [.t 28,.t 29],mo 4 30]) (.keep (kp [(4,0)] [] 0) .ret))))),[.t 4]⟩
abbrev g23_S:=Sys.on [(120,g111_r),(146,g68_r)] []
def impl_Pager_committed (a_p:K1) (a_k:Int):Option (Str):=(impl_pageAt a_p.2.2.2.2.1 a_k).bind fun r1=>if r1.2 = true then if 0 ≤ r1.1 then (a_p.2.2.2.2.1[(r1.1).toNat]?).bind fun x2=>some x2.2 else none else (impl_Disk_read a_p.1 a_k).bind fun r3=>some r3
@[simp] def g23_O:Str → TV × List Blk:=fun r=>((.str r),[])
def g23_E (a:K1 × Int × List TV):List TV:=[(.vp ((.vs (rows a.1.1.1))::(.vs (rows a.1.1.2.1))::(.int .i64 a.1.1.2.2.1)::(.bool a.1.1.2.2.2)::(.int .i64 a.1.2.1.1)::(.int .i64 a.1.2.1.2.1)::(.int .i64 a.1.2.1.2.2.1)::(.int .i64 a.1.2.1.2.2.2)::(.int .i64 a.1.2.2.1)::(.int .i64 a.1.2.2.2.1)::(.vs (rows a.1.2.2.2.2.1))::(.vs (rows a.1.2.2.2.2.2))::a.2.2)),(.int .i64 a.2.1)]
theorem g23_run (a_p:K1) (a_k:Int) (q0:List TV):callFn (X g23_S) g23_tf (g23_E (a_p,a_k,q0)) [] = (impl_Pager_committed a_p a_k).map g23_O:=by
  rw [callFn_eq]
  simp (maxSteps:=2000000) (maxDischargeDepth:=8) -implicitDefEqProofs [g23_tf,impl_Pager_committed,g23_E] <;> (try simp only [map_to_bind,some_elim,g23_O])
def g23_r:Rule:=RlO g23_E (fun a=>impl_Pager_committed a.1 a.2.1) g23_O
theorem g23_ok:RuleOk Tryz.prog 121 g23_r:=ok_rlo (S:=g23_S) (tf:=g23_tf) (SysOk.on ⟨g111_ok,g68_ok,trivial⟩ trivial) (trE_ok (ks:=[]) Tryz.func121 (by kernel_rfl)) fun a=>g23_run a.1 a.2.1 a.2.2
@[simp] theorem g23_app (y0 y1 y2 y3 y4 y5 y6 y7 y8 y9 y10 y11 y12)(q0:List TV):g23_r [(.vp ((.vs (rows y0))::(.vs (rows y1))::(.int .i64 y2)::(.bool y3)::(.int .i64 y4)::(.int .i64 y5)::(.int .i64 y6)::(.int .i64 y7)::(.int .i64 y8)::(.int .i64 y9)::(.vs (rows y10))::(.vs (rows y11))::q0)),(.int .i64 y12)] = (impl_Pager_committed (((y0,y1,y2,y3),(y4,y5,y6,y7),y8,y9,y10,y11)) y12).map g23_O :=
  RlO_app (enc:=g23_E) (by intro a b h; simp [g23_E,Prod.ext_iff] at h ⊢; simp [h]) (((y0,y1,y2,y3),(y4,y5,y6,y7),y8,y9,y10,y11),y12,q0)
/-! (*impl.Pager).get -/
def g69_tf:TFn:=⟨(sq [mk 4 (.c (.str []))] [0,1] (.seq (sq [mo 8 0,nk 9 8,fa 10 11 9,ld 11 10,mo 12 1,ca 13 120 [.t 11,.t 12],mo 7 13,oo 14 (.ext (.t 7) 0),oo 15 (.ext (.t 7) 1),mo 5 14,mo 6 15] [0,1,5,6] (sq [mo 16 6] [0,1,5,16] (.cond (.t 16) (.seq (.ops [mo 17 0,nk 18 17,fa 19 11 18,ld 20 19,mo 21 5,ia 22 2 20 21,fa 23 1 22,ld 24 23,mo 4 24]) (.keep (kp [(4,0)] [] 0) .ret)) .skip))) (.trim [0,1] (.seq (.ops [mo 25 0,mo 26 1,ca 27 121 [.t 25,.t 26],mo 4 27]) (.keep (kp [(4,0)] [] 0) .ret))))),[.t 4]⟩
abbrev g69_S:=Sys.on [(120,g111_r),(121,g23_r)] []
def impl_Pager_get (a_p:K1) (a_k:Int):Option (Str):=(impl_pageAt a_p.2.2.2.2.2 a_k).bind fun r1=>if r1.2 = true then if 0 ≤ r1.1 then (a_p.2.2.2.2.2[(r1.1).toNat]?).bind fun x2=>some x2.2 else none else (impl_Pager_committed a_p a_k).bind fun r3=>some r3
@[simp] def g69_O:Str → TV × List Blk:=fun r=>((.str r),[])
def g69_E (a:K1 × Int × List TV):List TV:=[(.vp ((.vs (rows a.1.1.1))::(.vs (rows a.1.1.2.1))::(.int .i64 a.1.1.2.2.1)::(.bool a.1.1.2.2.2)::(.int .i64 a.1.2.1.1)::(.int .i64 a.1.2.1.2.1)::(.int .i64 a.1.2.1.2.2.1)::(.int .i64 a.1.2.1.2.2.2)::(.int .i64 a.1.2.2.1)::(.int .i64 a.1.2.2.2.1)::(.vs (rows a.1.2.2.2.2.1))::(.vs (rows a.1.2.2.2.2.2))::a.2.2)),(.int .i64 a.2.1)]
theorem g69_run (a_p:K1) (a_k:Int) (q0:List TV):callFn (X g69_S) g69_tf (g69_E (a_p,a_k,q0)) [] = (impl_Pager_get a_p a_k).map g69_O:=by
  rw [callFn_eq]
  simp (maxSteps:=2000000) (maxDischargeDepth:=8) -implicitDefEqProofs [g69_tf,impl_Pager_get,g69_E] <;> (try simp only [map_to_bind,some_elim,g69_O])
def g69_r:Rule:=RlO g69_E (fun a=>impl_Pager_get a.1 a.2.1) g69_O
theorem g69_ok:RuleOk Tryz.prog 75 g69_r:=ok_rlo (S:=g69_S) (tf:=g69_tf) (SysOk.on ⟨g111_ok,g23_ok,trivial⟩ trivial) (trE_ok (ks:=[]) Tryz.func75 (by kernel_rfl)) fun a=>g69_run a.1 a.2.1 a.2.2
@[simp] theorem g69_app (y0 y1 y2 y3 y4 y5 y6 y7 y8 y9 y10 y11 y12)(q0:List TV):g69_r [(.vp ((.vs (rows y0))::(.vs (rows y1))::(.int .i64 y2)::(.bool y3)::(.int .i64 y4)::(.int .i64 y5)::(.int .i64 y6)::(.int .i64 y7)::(.int .i64 y8)::(.int .i64 y9)::(.vs (rows y10))::(.vs (rows y11))::q0)),(.int .i64 y12)] = (impl_Pager_get (((y0,y1,y2,y3),(y4,y5,y6,y7),y8,y9,y10,y11)) y12).map g69_O :=
  RlO_app (enc:=g69_E) (by intro a b h; simp [g69_E,Prod.ext_iff] at h ⊢; simp [h]) (((y0,y1,y2,y3),(y4,y5,y6,y7),y8,y9,y10,y11),y12,q0)
/-! (*impl.Pager).allocated -/
def g24_tf:TFn:=⟨(sq [mk 4 (kb false)] [0,1] (.seq (.after (.ops [mo 5 0,mo 6 1,ca 7 114 [.t 5,.t 6,ki 1],mo 8 7,⟨(some 9),(some (8,true)),(.mv (.t 0))⟩,⟨(some 10),(some (8,true)),(.mv (.t 0))⟩,⟨(some 11),(some (8,true)),(.call 115 [.t 10])⟩,⟨(some 12),(some (8,true)),(.call 75 [.t 9,.t 11])⟩,⟨(some 13),(some (8,true)),(.mv (.t 1))⟩,⟨(some 14),(some (8,true)),(.bin .num .quo (.t 13) (ki 8))⟩,⟨(some 15),(some (8,true)),(.bin .num .add (ki 4) (.t 14))⟩,⟨(some 16),(some (8,true)),(.index (.t 12) (.t 15))⟩,⟨(some 17),(some (8,true)),(.mv (.t 1))⟩,⟨(some 18),(some (8,true)),(.bin .num .rem (.t 17) (ki 8))⟩,⟨(some 19),(some (8,true)),(.bin .num .shr (.t 16) (.t 18))⟩,⟨(some 20),(some (8,true)),(.bin .num .and (.t 19) (.c (.int .u8 1)))⟩,⟨(some 21),(some (8,true)),(.bin .num .eql (.t 20) (.c (.int .u8 1)))⟩,pk 22 (.t 8) (.t 21) (kb false),mo 4 22]) (kp [(4,0)] [] 0)) (.keep (kp [(4,0)] [] 0) .ret))),[.t 4]⟩
abbrev g24_S:=Sys.on [(114,g35_r),(115,g53_r),(75,g69_r)] []
def impl_Pager_allocated (a_p:K1) (a_k:Int):Option (Bool):=(impl_Pager_isData a_p a_k 1).bind fun r1=>if r1 = true then (impl_Pager_area a_p).bind fun r2=>(impl_Pager_get a_p r2).bind fun r3=>if 0 ≤ (IntKind.i64.wrap (4 + (IntKind.i64.wrap (Int.tdiv a_k 8)))) then (r3[((IntKind.i64.wrap (4 + (IntKind.i64.wrap (Int.tdiv a_k 8))))).toNat]?).bind fun (b4:UInt8)=>if (Int.tmod a_k 8) < 0 then none else some ((decide ((bitV .and .u8 ((shrV .u8 ((b4.toNat:Int)) ((Int.tmod a_k 8)))) 1) = 1))) else none else some false
@[simp] def g24_O:Bool → TV × List Blk:=fun r=>((.bool r),[])
def g24_E (a:K1 × Int × List TV):List TV:=[(.vp ((.vs (rows a.1.1.1))::(.vs (rows a.1.1.2.1))::(.int .i64 a.1.1.2.2.1)::(.bool a.1.1.2.2.2)::(.int .i64 a.1.2.1.1)::(.int .i64 a.1.2.1.2.1)::(.int .i64 a.1.2.1.2.2.1)::(.int .i64 a.1.2.1.2.2.2)::(.int .i64 a.1.2.2.1)::(.int .i64 a.1.2.2.2.1)::(.vs (rows a.1.2.2.2.2.1))::(.vs (rows a.1.2.2.2.2.2))::a.2.2)),(.int .i64 a.2.1)]
theorem g24_run (a_p:K1) (a_k:Int) (q0:List TV):callFn (X g24_S) g24_tf (g24_E (a_p,a_k,q0)) [] = (impl_Pager_allocated a_p a_k).map g24_O:=by
  rw [callFn_eq]
  simp (maxSteps:=2000000) (maxDischargeDepth:=8) -implicitDefEqProofs [g24_tf,impl_Pager_allocated,g24_E] <;> (try simp only [map_to_bind,some_elim,g24_O])
def g24_r:Rule:=RlO g24_E (fun a=>impl_Pager_allocated a.1 a.2.1) g24_O
theorem g24_ok:RuleOk Tryz.prog 72 g24_r:=ok_rlo (S:=g24_S) (tf:=g24_tf) (SysOk.on ⟨g35_ok,g53_ok,g69_ok,trivial⟩ trivial) (trE_ok (ks:=[]) Tryz.func72 (by kernel_rfl)) fun a=>g24_run a.1 a.2.1 a.2.2
@[simp] theorem g24_app (y0 y1 y2 y3 y4 y5 y6 y7 y8 y9 y10 y11 y12)(q0:List TV):g24_r [(.vp ((.vs (rows y0))::(.vs (rows y1))::(.int .i64 y2)::(.bool y3)::(.int .i64 y4)::(.int .i64 y5)::(.int .i64 y6)::(.int .i64 y7)::(.int .i64 y8)::(.int .i64 y9)::(.vs (rows y10))::(.vs (rows y11))::q0)),(.int .i64 y12)] = (impl_Pager_allocated (((y0,y1,y2,y3),(y4,y5,y6,y7),y8,y9,y10,y11)) y12).map g24_O :=
  RlO_app (enc:=g24_E) (by intro a b h; simp [g24_E,Prod.ext_iff] at h ⊢; simp [h]) (((y0,y1,y2,y3),(y4,y5,y6,y7),y8,y9,y10,y11),y12,q0)
/-! slices.Index[[]int64,int64] -/
def g12l1_cb:TC:=(sq [bn 9 .lss (.t 8) (.t 7)] [0,1,7,8,9] (.seq (.cond (.t 9) .skip (.keep (kp [] [] 0) (.exit 0))) (.trim [0,1,7,8] (.seq (.block 1 (sq [mo 10 8,mo 5 10] [0,1,5,7,8] (sq [mo 11 1,mo 12 0,mo 13 5,ia 14 1 12 13,ld 15 14,bn 16 .eql (.t 11) (.t 15)] [0,1,5,7,8,16] (.cond (.t 16) (.seq (.ops [mo 17 5,mo 4 17]) (.keep (kp [(4,0)] [] 0) .ret)) .skip)))) (.trim [0,1,7,8] (.after (.ops [bn 18 .add (.t 8) (ki 1),mo 8 18]) (kp [(0,0),(1,0),(7,0),(8,0)] [] 0)))))))
def g12l1_c:TC:=.loop [0,1,7,8] g12l1_cb
def g12_tf:TFn:=⟨(sq [mk 4 (ki 0)] [0,1] (.seq (sq [mo 6 0,le 7 6,mk 8 (ki 0)] [0,1,7,8] (.block 0 (.keep (kp [(0,0),(1,0),(7,0),(8,0)] [] 0) g12l1_c))) (.trim [] (.seq (.ops [mk 4 (ki (-1))]) (.keep (kp [(4,0)] [] 0) .ret))))),[.t 4]⟩
abbrev g12_S:=Sys.on [] []
@[reducible,simp] def g12l1_F:((Unit) ⊕ (Int)) → Out:=(Sum.elim (fun t=>(.ext 0,[],[])) (fun t=>(.ret,[(4,(.int .i64 t))],[])))
def slices_Index_int64_int64__l1_b (v1:List Int) (v2:Int) (v3:Int) (v4:Int):Option ((Int) ⊕ ((Unit) ⊕ (Int))):=if v4 < v3 then if 0 ≤ v4 then (v1[(v4).toNat]?).bind fun x5=>if v2 = x5 then some (.inr (.inr v4)) else some (.inl ((IntKind.i64.wrap (v4 + 1)))) else none else some (.inr (.inl ()))
theorem g12l1_b_eq  (v1:List Int) (v2:Int) (v3:Int) (v4:Int):X g12_S g12l1_cb (keepEnv [0,1,7,8] [(0,(.vs (rows v1))),(1,(.int .i64 v2)),(7,(.int .i64 v3)),(8,(.int .i64 v4))]) [] = (slices_Index_int64_int64__l1_b v1 v2 v3 v4).map (Sum.elim (fun s=>(TX.nrm,[(0,(.vs (rows v1))),(1,(.int .i64 v2)),(7,(.int .i64 v3)),(8,(.int .i64 s))],[])) g12l1_F):=by
  simp (maxSteps:=2000000) (maxDischargeDepth:=8) -implicitDefEqProofs [g12l1_cb,slices_Index_int64_int64__l1_b] <;> (try simp only [map_to_bind,some_elim,g12l1_F])
def slices_Index_int64_int64__l1 (v1:List Int) (v2:Int) (v3:Int) (s:Int):Option ((Unit) ⊕ (Int)):=loopO (fun s=>slices_Index_int64_int64__l1_b v1 v2 v3 s) s
@[simp] theorem g12l1_eq (y0 y1 y2 y3):X g12_S g12l1_c [(0,(.vs (rows y0))),(1,(.int .i64 y1)),(7,(.int .i64 y2)),(8,(.int .i64 y3))] [] = (slices_Index_int64_int64__l1 y0 y1 y2 y3).map g12l1_F:=by
  exact loop_X _ _ _ _ (by intro r; first | (simp; done) | (rcases r with r | r <;> simp; done) | (rcases r with r | r | r <;> simp; done) | (rcases r with r | r | r | r <;> simp)) (fun s=>g12l1_b_eq  y0 y1 y2 s) y3
def slices_Index_int64_int64_ (a_s:List Int) (a_v:Int):Option (Int):=(slices_Index_int64_int64__l1 a_s a_v ((a_s.length:Int)) 0).bind fun r6=>Sum.elim (fun u7=>some ((-1))) (fun u8=>some u8) r6
@[simp] def g12_O:Int → TV × List Blk:=fun r=>((.int .i64 r),[])
def g12_E (a:List Int × Int):List TV:=[(.vs (rows a.1)),(.int .i64 a.2)]
theorem g12_run (a_s:List Int) (a_v:Int) :callFn (X g12_S) g12_tf (g12_E (a_s,a_v)) [] = (slices_Index_int64_int64_ a_s a_v).map g12_O:=by
  rw [callFn_eq]
  simp (maxSteps:=2000000) (maxDischargeDepth:=8) -implicitDefEqProofs [g12_tf,slices_Index_int64_int64_,g12_E] <;> (try simp only [map_to_bind,some_elim,g12_O])
def g12_r:Rule:=RlO g12_E (fun a=>slices_Index_int64_int64_ a.1 a.2) g12_O
theorem g12_ok:RuleOk Tryz.prog 116 g12_r:=ok_rlo (S:=g12_S) (tf:=g12_tf) (SysOk.on trivial trivial) (trE_ok (ks:=[[0,1,7,8]]) Tryz.func116 (by kernel_rfl)) fun a=>g12_run a.1 a.2
@[simp] theorem g12_app (y0 y1):g12_r [(.vs (rows y0)),(.int .i64 y1)] = (slices_Index_int64_int64_ y0 y1).map g12_O :=
  RlO_app (enc:=g12_E) (by intro a b h; simp [g12_E,Prod.ext_iff] at h ⊢; simp [h]) (y0,y1)
/-! slices.Contains[[]int64,int64] -/
def g10_tf:TFn:=⟨(sq [mk 4 (kb false)] [0,1] (.seq (.ops [mo 5 0,mo 6 1,ca 7 116 [.t 5,.t 6],bn 8 .geq (.t 7) (ki 0),mo 4 8]) (.keep (kp [(4,0)] [] 0) .ret))),[.t 4]⟩
abbrev g10_S:=Sys.on [(116,g12_r)] []
def slices_Contains_int64_int64_ (a_s:List Int) (a_v:Int):Option (Bool):=(slices_Index_int64_int64_ a_s a_v).bind fun r1=>some ((decide (r1 ≥ 0)))
@[simp] def g10_O:Bool → TV × List Blk:=fun r=>((.bool r),[])
def g10_E (a:List Int × Int):List TV:=[(.vs (rows a.1)),(.int .i64 a.2)]
theorem g10_run (a_s:List Int) (a_v:Int) :callFn (X g10_S) g10_tf (g10_E (a_s,a_v)) [] = (slices_Contains_int64_int64_ a_s a_v).map g10_O:=by
  rw [callFn_eq]
  simp (maxSteps:=2000000) (maxDischargeDepth:=8) -implicitDefEqProofs [g10_tf,slices_Contains_int64_int64_,g10_E] <;> (try simp only [map_to_bind,some_elim,g10_O])
def g10_r:Rule:=RlO g10_E (fun a=>slices_Contains_int64_int64_ a.1 a.2) g10_O
theorem g10_ok:RuleOk Tryz.prog 73 g10_r:=ok_rlo (S:=g10_S) (tf:=g10_tf) (SysOk.on ⟨g12_ok,trivial⟩ trivial) (trE_ok (ks:=[]) Tryz.func73 (by kernel_rfl)) fun a=>g10_run a.1 a.2
@[simp] theorem g10_app (y0 y1):g10_r [(.vs (rows y0)),(.int .i64 y1)] = (slices_Contains_int64_int64_ y0 y1).map g10_O :=
  RlO_app (enc:=g10_E) (by intro a b h; simp [g10_E,Prod.ext_iff] at h ⊢; simp [h]) (y0,y1)
@[simp] theorem g10_app_a_s (y0):g10_r [(.vs []),(.int .i64 y0)] = (slices_Contains_int64_int64_ (([]:List Int)) y0).map g10_O :=
  g10_app ([]:List Int) y0 
/-! impl.cut -/
def g122_tf:TFn:=⟨(sq [mk 6 (.c (.str [])),mk 7 (kb false)] [0,1,2] (.seq (sq [mo 8 2,bn 9 .lss (.t 8) (ki 0),mo 10 9,⟨(some 11),(some (10,false)),(.mv (.t 1))⟩,⟨(some 12),(some (10,false)),(.mv (.t 0))⟩,⟨(some 13),(some (10,false)),(.len true (.t 12))⟩,⟨(some 14),(some (10,false)),(.mv (.t 2))⟩,⟨(some 15),(some (10,false)),(.bin .num .sub (.t 13) (.t 14))⟩,⟨(some 16),(some (10,false)),(.call 68 [.t 11,ki 0,.t 15])⟩,⟨(some 17),(some (10,false)),(.un .not (.t 16))⟩,pk 18 (.t 10) (kb true) (.t 17)] [0,1,2,18] (.cond (.t 18) (.seq (.ops [mk 6 (.c (.str [])),mk 7 (kb false)]) (.keep (kp [(6,0),(7,0)] [] 0) .ret)) .skip)) (.trim [0,1,2] (.seq (.ops [mo 19 0,mo 20 1,mo 21 1,mo 22 2,bn 23 .add (.t 21) (.t 22),oo 24 (.sliceS (.t 19) (some (.t 20)) (some (.t 23))),mo 6 24,mk 7 (kb true)]) (.keep (kp [(6,0),(7,0)] [] 0) .ret))))),[.t 6,.t 7]⟩
abbrev g122_S:=Sys.on [(68,g110_r)] []
def impl_cut (a_s:Str) (a_at:Int) (a_size:Int):Option (Str × Bool):=if a_size < 0 then some (([]:Str),false) else (impl_within a_at 0 ((IntKind.i64.wrap ((a_s.length:Int) - a_size)))).bind fun r1=>if ¬(r1 = true) then some (([]:Str),false) else (subL a_s (some a_at) (some ((IntKind.i64.wrap (a_at + a_size))))).bind fun s2=>some (s2,true)
@[simp] def g122_O:(Str × Bool) → TV × List Blk:=fun r=>((.tup [(.str r.1),(.bool r.2)]),[])
def g122_E (a:Str × Int × Int):List TV:=[(.str a.1),(.int .i64 a.2.1),(.int .i64 a.2.2)]
theorem g122_run (a_s:Str) (a_at:Int) (a_size:Int) :callFn (X g122_S) g122_tf (g122_E (a_s,a_at,a_size)) [] = (impl_cut a_s a_at a_size).map g122_O:=by
  rw [callFn_eq]
  simp (maxSteps:=2000000) (maxDischargeDepth:=8) -implicitDefEqProofs [g122_tf,impl_cut,g122_E] <;> (try simp only [map_to_bind,some_elim,g122_O])
def g122_r:Rule:=RlO g122_E (fun a=>impl_cut a.1 a.2.1 a.2.2) g122_O
theorem g122_ok:RuleOk Tryz.prog 141 g122_r:=ok_rlo (S:=g122_S) (tf:=g122_tf) (SysOk.on ⟨g110_ok,trivial⟩ trivial) (trE_ok (ks:=[]) Tryz.func141 (by kernel_rfl)) fun a=>g122_run a.1 a.2.1 a.2.2
@[simp] theorem g122_app (y0 y1 y2):g122_r [(.str y0),(.int .i64 y1),(.int .i64 y2)] = (impl_cut y0 y1 y2).map g122_O :=
  RlO_app (enc:=g122_E) (by intro a b h; simp [g122_E,Prod.ext_iff] at h ⊢; simp [h]) (y0,y1,y2)
/-! (*impl.decoder).take -/
def g18_tf:TFn:=⟨(sq [mk 4 (.c (.str []))] [0,1] (sq [mo 8 0,nk 9 8,fa 10 0 9,ld 11 10,mo 12 1,ca 13 141 [.t 11,ki 0,.t 12],mo 7 13,oo 14 (.ext (.t 7) 0),oo 15 (.ext (.t 7) 1),mo 5 14,mo 6 15] [0,1,5,6] (.seq (sq [mo 16 6,nt 17 16] [0,1,5,17] (.cond (.t 17) (sq [mo 18 0,nk 19 18,fa 20 1 19,⟨none,none,(.store 1 (.t 20) (kb true))⟩] [] (.seq (.ops [mk 4 (.c (.str []))]) (.keep (kp [(4,0)] [(0,0)] 1) .ret))) .skip)) (.trim [0,1,5] (sq [mo 21 0,mo 22 0,nk 23 22,fa 24 0 23,ld 25 24,mo 26 1,oo 27 (.sliceS (.t 25) (some (.t 26)) none),nk 28 21,fa 29 0 28,⟨none,none,(.store 1 (.t 29) (.t 27))⟩] [5] (.seq (.ops [mo 30 5,mo 4 30]) (.keep (kp [(4,0)] [(0,0)] 1) .ret))))))),[.t 4]⟩
abbrev g18_S:=Sys.on [(141,g122_r)] []
def impl_decoder_take_o1a (a1:Str × Bool) (a2:Int):Option ((Str × Bool) × Str):=(impl_cut a1.1 0 a2).bind fun r1=>if ¬(r1.2 = true) then some ((a1.1,true),([]:Str)) else (subL a1.1 (some a2) none).bind fun s2=>some ((s2,a1.2),r1.1)
@[simp] def g18_O:((Str × Bool) × Str) → TV × List Blk:=fun r=>((.str r.2),[(.live 2 [[(.str r.1.1),(.bool r.1.2)]])])
abbrev g18_T:=(Str × Bool) × Int
def g18_E (a:g18_T):List TV:=[(.ptr 0 0 0),(.int .i64 a.2)]
def g18_B (a:g18_T):List Blk:=[(.live 2 [[(.str a.1.1),(.bool a.1.2)]])]
theorem g18_run (a1:Str × Bool) (a2:Int) :callFn (X g18_S) g18_tf (g18_E (a1,a2)) (g18_B (a1,a2)) = (impl_decoder_take_o1a a1 a2).map g18_O:=by
  rw [callFn_eq]
  simp (maxSteps:=2000000) (maxDischargeDepth:=8) -implicitDefEqProofs [g18_tf,impl_decoder_take_o1a,g18_E,g18_B] <;> (try simp only [map_to_bind,some_elim,g18_O])
def g18_r:MRule:=RmO g18_E g18_B (fun a=>impl_decoder_take_o1a a.1 a.2) g18_O
theorem g18_ok:MRuleOk Tryz.prog 118 1 g18_r:=ok_rmo (S:=g18_S) (tf:=g18_tf) (SysOk.on ⟨g122_ok,trivial⟩ trivial) (trE_ok (ks:=[]) Tryz.func118 (by kernel_rfl)) (by rfl) (fun _=>by simp [g18_B]) (fun _=>by simp) fun a=>g18_run a.1 a.2
@[simp] theorem g18_app (y0 y1 y2):g18_r [(.ptr 0 0 0),(.int .i64 y2)] [(.live 2 [[(.str y0),(.bool y1)]])] = (impl_decoder_take_o1a ((y0,y1)) y2).map g18_O:=by
  exact RmO_app (enc:=g18_E) (encB:=g18_B) (by intro a b h h2; simp [g18_E,g18_B,Prod.ext_iff] at h h2 ⊢; simp [h,h2]) ((y0,y1),y2)
/-! impl.getBits -/
def g95l1_cb:TC:=(sq [bn 8 .lss (.t 7) (.t 6)] [0,3,6,7,8] (.seq (.cond (.t 8) .skip (.keep (kp [(3,0)] [] 0) (.exit 0))) (.trim [0,3,6,7] (.seq (.block 1 (sq [mo 9 7,mo 4 9] [0,3,4,6,7] (.ops [mo 10 3,mo 11 0,mo 12 4,oo 13 (.index (.t 11) (.t 12)),oo 14 (.conv (.toInt .u64) (.t 13)),mo 15 4,bn 16 .mul (ki 8) (.t 15),bn 17 .shl (.t 14) (.t 16),bn 18 .or (.t 10) (.t 17),mo 3 18]))) (.trim [0,3,6,7] (.after (.ops [bn 19 .add (.t 7) (ki 1),mo 7 19]) (kp [(0,0),(3,0),(6,0),(7,0)] [] 0)))))))
def g95l1_c:TC:=.loop [0,3,6,7] g95l1_cb
def g95_tf:TFn:=⟨(sq [mk 2 (.c (.int .u64 0))] [0] (sq [mk 3 (.c (.int .u64 0))] [0,3] (.seq (sq [mo 5 0,oo 6 (.len true (.t 5)),mk 7 (ki 0)] [0,3,6,7] (.block 0 (.keep (kp [(0,0),(3,0),(6,0),(7,0)] [] 0) g95l1_c))) (.trim [3] (.seq (.ops [mo 20 3,mo 2 20]) (.keep (kp [(2,0)] [] 0) .ret)))))),[.t 2]⟩
abbrev g95_S:=Sys.on [] []
@[reducible,simp] def g95l1_F:Int → Out:=(fun t=>(.ext 0,[(3,(.int .u64 t))],[]))
def impl_getBits_l1_b (v1:Str) (v3:Int) (v2:Int) (v4:Int):Option ((Int × Int) ⊕ (Int)):=if v4 < v3 then if 0 ≤ v4 then (v1[(v4).toNat]?).bind fun (b5:UInt8)=>if (IntKind.i64.wrap (8 * v4)) < 0 then none else some (.inl ((bitV .or .u64 v2 ((shlV .u64 ((IntKind.u64.wrap ((b5.toNat:Int)))) ((IntKind.i64.wrap (8 * v4)))))),(IntKind.i64.wrap (v4 + 1)))) else none else some (.inr v2)
theorem g95l1_b_eq  (v1:Str) (v3:Int) (v2:Int) (v4:Int):X g95_S g95l1_cb (keepEnv [0,3,6,7] [(0,(.str v1)),(3,(.int .u64 v2)),(6,(.int .i64 v3)),(7,(.int .i64 v4))]) [] = (impl_getBits_l1_b v1 v3 v2 v4).map (Sum.elim (fun s=>(TX.nrm,[(0,(.str v1)),(3,(.int .u64 s.1)),(6,(.int .i64 v3)),(7,(.int .i64 s.2))],[])) g95l1_F):=by
  simp (maxSteps:=2000000) (maxDischargeDepth:=8) -implicitDefEqProofs [g95l1_cb,impl_getBits_l1_b] <;> (try simp only [map_to_bind,some_elim,g95l1_F])
def impl_getBits_l1 (v1:Str) (v3:Int) (s:Int × Int):Option (Int):=loopO (fun s=>impl_getBits_l1_b v1 v3 s.1 s.2) s
@[simp] theorem g95l1_eq (y0 y1 y2 y3):X g95_S g95l1_c [(0,(.str y0)),(3,(.int .u64 y1)),(6,(.int .i64 y2)),(7,(.int .i64 y3))] [] = (impl_getBits_l1 y0 y2 (y1,y3)).map g95l1_F:=by
  exact loop_X _ _ _ _ (by intro r; first | (simp; done) | (rcases r with r | r <;> simp; done) | (rcases r with r | r | r <;> simp; done) | (rcases r with r | r | r | r <;> simp)) (fun s=>g95l1_b_eq  y0 y2 s.1 s.2) (y1,y3)
def impl_getBits (a_s:Str):Option (Int):=(impl_getBits_l1 a_s ((a_s.length:Int)) ((0,0))).bind fun r6=>some r6
@[simp] def g95_O:Int → TV × List Blk:=fun r=>((.int .u64 r),[])
def g95_E (a:Str):List TV:=[(.str a)]
theorem g95_run (a_s:Str) :callFn (X g95_S) g95_tf (g95_E a_s) [] = (impl_getBits a_s).map g95_O:=by
  rw [callFn_eq]
  simp (maxSteps:=2000000) (maxDischargeDepth:=8) -implicitDefEqProofs [g95_tf,impl_getBits,g95_E] <;> (try simp only [map_to_bind,some_elim,g95_O])
def g95_r:Rule:=RlO g95_E (fun a=>impl_getBits a) g95_O
theorem g95_ok:RuleOk Tryz.prog 140 g95_r:=ok_rlo (S:=g95_S) (tf:=g95_tf) (SysOk.on trivial trivial) (trE_ok (ks:=[[0,3,6,7]]) Tryz.func140 (by kernel_rfl)) fun a=>g95_run a
@[simp] theorem g95_app (y0):g95_r [(.str y0)] = (impl_getBits y0).map g95_O :=
  RlO_app (enc:=g95_E) (by intro a b h; simp [g95_E,Prod.ext_iff] at h ⊢; simp [h]) y0
/-! (*impl.decoder).number -/
def g16_tf:TFn:=⟨(sq [mk 4 (ki 0)] [0,1] (.seq (.ops [mo 5 0,mo 6 1,oo 7 (.callM 118 0 [0] [.t 5,.t 6]),ca 8 140 [.t 7],oo 9 (.conv (.toInt .i64) (.t 8)),mo 4 9]) (.keep (kp [(4,0)] [(0,0)] 1) .ret))),[.t 4]⟩
abbrev g16_S:=Sys.on [(140,g95_r)] [((118,0),(1,g18_r))]
def impl_decoder_number_o1a (a1:Str × Bool) (a2:Int):Option ((Str × Bool) × Int):=(impl_decoder_take_o1a a1 a2).bind fun r1=>(impl_getBits r1.2).bind fun r2=>some (r1.1,(IntKind.i64.wrap r2))
@[simp] def g16_O:((Str × Bool) × Int) → TV × List Blk:=fun r=>((.int .i64 r.2),[(.live 2 [[(.str r.1.1),(.bool r.1.2)]])])
abbrev g16_T:=(Str × Bool) × Int
def g16_E (a:g16_T):List TV:=[(.ptr 0 0 0),(.int .i64 a.2)]
def g16_B (a:g16_T):List Blk:=[(.live 2 [[(.str a.1.1),(.bool a.1.2)]])]
theorem g16_run (a1:Str × Bool) (a2:Int) :callFn (X g16_S) g16_tf (g16_E (a1,a2)) (g16_B (a1,a2)) = (impl_decoder_number_o1a a1 a2).map g16_O:=by
  rw [callFn_eq]
  simp (maxSteps:=2000000) (maxDischargeDepth:=8) -implicitDefEqProofs [g16_tf,impl_decoder_number_o1a,g16_E,g16_B] <;> (try simp only [map_to_bind,some_elim,g16_O])
def g16_r:MRule:=RmO g16_E g16_B (fun a=>impl_decoder_number_o1a a.1 a.2) g16_O
theorem g16_ok:MRuleOk Tryz.prog 117 1 g16_r:=ok_rmo (S:=g16_S) (tf:=g16_tf) (SysOk.on ⟨g95_ok,trivial⟩ ⟨g18_ok,trivial⟩) (trE_ok (ks:=[]) Tryz.func117 (by kernel_rfl)) (by rfl) (fun _=>by simp [g16_B]) (fun _=>by simp) fun a=>g16_run a.1 a.2
@[simp] theorem g16_app (y0 y1 y2):g16_r [(.ptr 0 0 0),(.int .i64 y2)] [(.live 2 [[(.str y0),(.bool y1)]])] = (impl_decoder_number_o1a ((y0,y1)) y2).map g16_O:=by
  exact RmO_app (enc:=g16_E) (encB:=g16_B) (by intro a b h h2; simp [g16_E,g16_B,Prod.ext_iff] at h h2 ⊢; simp [h,h2]) ((y0,y1),y2)
/-! strings.trimRightByte -/
def g19l1_cb:TC:=(.seq (sq [mo 5 0,oo 6 (.len true (.t 5)),bn 7 .gtr (.t 6) (ki 0),mo 8 7,⟨(some 9),(some (8,true)),(.mv (.t 0))⟩,⟨(some 10),(some (8,true)),(.mv (.t 0))⟩,⟨(some 11),(some (8,true)),(.len true (.t 10))⟩,⟨(some 12),(some (8,true)),(.bin .num .sub (.t 11) (ki 1))⟩,⟨(some 13),(some (8,true)),(.index (.t 9) (.t 12))⟩,⟨(some 14),(some (8,true)),(.mv (.t 1))⟩,⟨(some 15),(some (8,true)),(.bin .num .eql (.t 13) (.t 14))⟩,pk 16 (.t 8) (.t 15) (kb false)] [0,1,16] (.cond (.t 16) .skip (.keep (kp [(0,0)] [] 0) (.exit 0)))) (.trim [0,1] (.block 1 (.after (.ops [mo 17 0,mo 18 0,oo 19 (.len true (.t 18)),bn 20 .sub (.t 19) (ki 1),oo 21 (.sliceS (.t 17) none (some (.t 20))),mo 0 21]) (kp [(0,0),(1,0)] [] 0)))))
def g19l1_c:TC:=.loop [0,1] g19l1_cb
def g19_tf:TFn:=⟨(sq [mk 4 (.c (.str []))] [0,1] (.seq (.block 0 (.keep (kp [(0,0),(1,0)] [] 0) g19l1_c)) (.trim [0] (.seq (.ops [mo 22 0,mo 4 22]) (.keep (kp [(4,0)] [] 0) .ret))))),[.t 4]⟩
abbrev g19_S:=Sys.on [] []
@[reducible,simp] def g19l1_F:Str → Out:=(fun t=>(.ext 0,[(0,(.str t))],[]))
def strings_trimRightByte_l1_b (v2:Int) (v1:Str):Option ((Str) ⊕ (Str)):=if (v1.length:Int) > 0 then if 0 ≤ (IntKind.i64.wrap ((v1.length:Int) - 1)) then (v1[((IntKind.i64.wrap ((v1.length:Int) - 1))).toNat]?).bind fun (b3:UInt8)=>if (b3.toNat:Int) = v2 then (subL v1 none (some ((IntKind.i64.wrap ((v1.length:Int) - 1))))).bind fun s4=>some (.inl s4) else some (.inr v1) else none else some (.inr v1)
theorem g19l1_b_eq  (v2:Int) (v1:Str):X g19_S g19l1_cb (keepEnv [0,1] [(0,(.str v1)),(1,(.int .u8 v2))]) [] = (strings_trimRightByte_l1_b v2 v1).map (Sum.elim (fun s=>(TX.nrm,[(0,(.str s)),(1,(.int .u8 v2))],[])) g19l1_F):=by
  simp (maxSteps:=2000000) (maxDischargeDepth:=8) -implicitDefEqProofs [g19l1_cb,strings_trimRightByte_l1_b] <;> (try simp only [map_to_bind,some_elim,g19l1_F])
def strings_trimRightByte_l1 (v2:Int) (s:Str):Option (Str):=loopO (fun s=>strings_trimRightByte_l1_b v2 s) s
@[simp] theorem g19l1_eq (y0 y1):X g19_S g19l1_c [(0,(.str y0)),(1,(.int .u8 y1))] [] = (strings_trimRightByte_l1 y1 y0).map g19l1_F:=by
  exact loop_X _ _ _ _ (by intro r; first | (simp; done) | (rcases r with r | r <;> simp; done) | (rcases r with r | r | r <;> simp; done) | (rcases r with r | r | r | r <;> simp)) (fun s=>g19l1_b_eq  y1 s) y0
def strings_trimRightByte (a_s:Str) (a_c:Int):Option (Str):=(strings_trimRightByte_l1 a_c a_s).bind fun r5=>some r5
@[simp] def g19_O:Str → TV × List Blk:=fun r=>((.str r),[])
def g19_E (a:Str × Int):List TV:=[(.str a.1),(.int .u8 a.2)]
theorem g19_run (a_s:Str) (a_c:Int) :callFn (X g19_S) g19_tf (g19_E (a_s,a_c)) [] = (strings_trimRightByte a_s a_c).map g19_O:=by
  rw [callFn_eq]
  simp (maxSteps:=2000000) (maxDischargeDepth:=8) -implicitDefEqProofs [g19_tf,strings_trimRightByte,g19_E] <;> (try simp only [map_to_bind,some_elim,g19_O])
def g19_r:Rule:=RlO g19_E (fun a=>strings_trimRightByte a.1 a.2) g19_O
theorem g19_ok:RuleOk Tryz.prog 157 g19_r:=ok_rlo (S:=g19_S) (tf:=g19_tf) (SysOk.on trivial trivial) (trE_ok (ks:=[[0,1]]) Tryz.func157 (by kernel_rfl)) fun a=>g19_run a.1 a.2
@[simp] theorem g19_app (y0 y1):g19_r [(.str y0),(.int .u8 y1)] = (strings_trimRightByte y0 y1).map g19_O :=
  RlO_app (enc:=g19_E) (by intro a b h; simp [g19_E,Prod.ext_iff] at h ⊢; simp [h]) (y0,y1)
/-! strings.TrimRight -/
def g37_tf:TFn:=⟨(sq [mk 4 (.c (.str []))] [0,1] (.seq (sq [mo 7 0,oo 8 (.bin .str .eql (.t 7) (.c (.str []))),mo 9 8,⟨(some 10),(some (9,false)),(.mv (.t 1))⟩,⟨(some 11),(some (9,false)),(.bin .str .eql (.t 10) (.c (.str [])))⟩,pk 12 (.t 9) (kb true) (.t 11)] [0,1,12] (.cond (.t 12) (.seq (.ops [mo 13 0,mo 4 13]) (.keep (kp [(4,0)] [] 0) .ret)) .skip)) (.trim [0,1] (.seq (sq [mo 14 1,oo 15 (.len true (.t 14)),bn 16 .eql (.t 15) (ki 1),mo 17 16,⟨(some 18),(some (17,true)),(.mv (.t 1))⟩,⟨(some 19),(some (17,true)),(.index (.t 18) (ki 0))⟩,⟨(some 20),(some (17,true)),(.bin .num .lss (.t 19) (.c (.int .u8 128)))⟩,pk 21 (.t 17) (.t 20) (kb false)] [0,1,21] (.cond (.t 21) (.seq (.ops [mo 22 0,mo 23 1,oo 24 (.index (.t 23) (ki 0)),ca 25 157 [.t 22,.t 24],mo 4 25]) (.keep (kp [(4,0)] [] 0) .ret)) .skip)) (.trim [0,1] (.seq (sq [mo 27 1,ca 28 158 [.t 27],mo 26 28,oo 29 (.ext (.t 26) 0),oo 30 (.ext (.t 26) 1),oo 5 (.alloc (zs 256 (.bool false))),⟨none,none,(.store 256 (.t 5) (.t 29))⟩,mo 6 30] [0,1,5,6] (sq [mo 31 6] [0,1,5,31] (.cond (.t 31) (.seq (.ops [mo 32 0,ca 33 159 [.t 32,.t 5],mo 4 33]) .ret) .skip))) (.trim [0,1] (.seq (.ops [mo 34 0,mo 35 1,ca 36 160 [.t 34,.t 35],mo 4 36]) .ret)))))))),[.t 4]⟩
abbrev g37_S:=Sys.on [(157,g19_r)] []
def strings_TrimRight (a_s:Str):Option (Str):=if a_s = ([]:Str) then some a_s else (strings_trimRightByte a_s 0).bind fun r1=>some r1
@[simp] def g37_O:Str → TV × List Blk:=fun r=>((.str r),[])
def g37_E (a:Str):List TV:=[(.str a),(.str (([0]:Str)))]
theorem g37_run (a_s:Str) :callFn (X g37_S) g37_tf (g37_E a_s) [] = (strings_TrimRight a_s).map g37_O:=by
  rw [callFn_eq]
  simp (maxSteps:=2000000) (maxDischargeDepth:=8) -implicitDefEqProofs [g37_tf,strings_TrimRight,g37_E] <;> (try simp only [map_to_bind,some_elim,g37_O])
def g37_r:Rule:=RlO g37_E (fun a=>strings_TrimRight a) g37_O
theorem g37_ok:RuleOk Tryz.prog 142 g37_r:=ok_rlo (S:=g37_S) (tf:=g37_tf) (SysOk.on ⟨g19_ok,trivial⟩ trivial) (trE_ok (ks:=[]) Tryz.func142 (by kernel_rfl)) fun a=>g37_run a
@[simp] theorem g37_app (y0):g37_r [(.str y0),(.str (([0]:Str)))] = (strings_TrimRight y0).map g37_O :=
  RlO_app (enc:=g37_E) (by intro a b h; simp [g37_E,Prod.ext_iff] at h ⊢; simp [h]) y0
/-! impl.trimmed -/
def g96_tf:TFn:=⟨(sq [mk 2 (.c (.str []))] [0] (.seq (.ops [mo 3 0,oo 4 (.call 142 [.t 3,(.c (.str [0]))]),mo 2 4]) (.keep (kp [(2,0)] [] 0) .ret))),[.t 2]⟩
abbrev g96_S:=Sys.on [(142,g37_r)] []
def impl_trimmed (a_b:Str):Option (Str):=(strings_TrimRight a_b).bind fun r1=>some r1
@[simp] def g96_O:Str → TV × List Blk:=fun r=>((.str r),[])
def g96_E (a:Str):List TV:=[(.str a)]
theorem g96_run (a_b:Str) :callFn (X g96_S) g96_tf (g96_E a_b) [] = (impl_trimmed a_b).map g96_O:=by
  rw [callFn_eq]
  simp (maxSteps:=2000000) (maxDischargeDepth:=8) -implicitDefEqProofs [g96_tf,impl_trimmed,g96_E] <;> (try simp only [map_to_bind,some_elim,g96_O])
def g96_r:Rule:=RlO g96_E (fun a=>impl_trimmed a) g96_O
theorem g96_ok:RuleOk Tryz.prog 119 g96_r:=ok_rlo (S:=g96_S) (tf:=g96_tf) (SysOk.on ⟨g37_ok,trivial⟩ trivial) (trE_ok (ks:=[]) Tryz.func119 (by kernel_rfl)) fun a=>g96_run a
@[simp] theorem g96_app (y0):g96_r [(.str y0)] = (impl_trimmed y0).map g96_O :=
  RlO_app (enc:=g96_E) (by intro a b h; simp [g96_E,Prod.ext_iff] at h ⊢; simp [h]) y0
/-! impl.chainBytes -/
def g55_tf:TFn:=⟨(sq [mk 2 (ki 0),mk 3 (.c (.str [])),mk 4 (kb false)] [0] (sq [mo 9 0,oo 10 (.build [(.str []),(.bool false)] [(0,1,(.t 9))]),bx 11 10,mo 5 11] [5] (sq [mo 12 5,oo 13 (.callM 117 0 [0] [.t 12,ki 2]),mo 14 5,oo 15 (.callM 117 0 [0] [.t 14,ki 2]),mo 6 13,mo 7 15] [5,6,7] (.seq (sq [mo 16 7,ca 17 68 [.t 16,ki 1,ki 60],nt 18 17] [5,6,7,18] (.cond (.t 18) (.seq (.ops [mk 2 (ki 0),mk 3 (.c (.str [])),mk 4 (kb false)]) (.keep (kp [(2,0),(3,0),(4,0)] [] 0) .ret)) .skip)) (.trim [5,6,7] (sq [mo 19 5,mo 20 7,oo 21 (.callM 118 0 [0] [.t 19,.t 20]),mo 8 21] [5,6,7,8] (.seq (.after (.ops [mo 22 6,mo 23 8,mo 24 5,nk 25 24,fa 26 0 25,ld 27 26,ca 28 119 [.t 27],oo 29 (.bin .str .eql (.t 28) (.c (.str []))),mo 30 29,⟨(some 31),(some (30,true)),(.mv (.t 7))⟩,⟨(some 32),(some (30,true)),(.bin .num .eql (.t 31) (ki 60))⟩,⟨(some 33),(some (30,true)),(.mv (.t 32))⟩,⟨(some 34),(some (33,false)),(.mv (.t 6))⟩,⟨(some 35),(some (33,false)),(.bin .num .eql (.t 34) (ki 0))⟩,⟨(some 36),(some (30,true)),(.pick (.t 33) (kb true) (.t 35))⟩,pk 37 (.t 30) (.t 36) (kb false),mo 2 22,mo 3 23,mo 4 37]) (kp [(2,0),(3,0),(4,0)] [] 0)) (.keep (kp [(2,0),(3,0),(4,0)] [] 0) .ret)))))))),[.t 2,.t 3,.t 4]⟩
abbrev g55_S:=Sys.on [(68,g110_r),(119,g96_r)] [((117,0),(1,g16_r)),((118,0),(1,g18_r))]
def impl_chainBytes (a_block:Str):Option (Int × Str × Bool):=(impl_decoder_number_o1a ((a_block,false)) 2).bind fun r1=>(impl_decoder_number_o1a r1.1 2).bind fun r2=>(impl_within r2.2 1 60).bind fun r3=>if ¬(r3 = true) then some (0,([]:Str),false) else (impl_decoder_take_o1a r2.1 r2.2).bind fun r4=>(impl_trimmed r4.1.1).bind fun r5=>if r5 = ([]:Str) then if r2.2 = 60 then some (r1.2,r4.2,true) else some (r1.2,r4.2,(decide (r1.2 = 0))) else some (r1.2,r4.2,false)
@[simp] def g55_O:(Int × Str × Bool) → TV × List Blk:=fun r=>((.tup [(.int .i64 r.1),(.str r.2.1),(.bool r.2.2)]),[])
def g55_E (a:Str):List TV:=[(.str a)]
theorem g55_run (a_block:Str) :callFn (X g55_S) g55_tf (g55_E a_block) [] = (impl_chainBytes a_block).map g55_O:=by
  rw [callFn_eq]
  simp (maxSteps:=2000000) (maxDischargeDepth:=8) -implicitDefEqProofs [g55_tf,impl_chainBytes,g55_E] <;> (try simp only [map_to_bind,some_elim,g55_O])
def g55_r:Rule:=RlO g55_E (fun a=>impl_chainBytes a) g55_O
theorem g55_ok:RuleOk Tryz.prog 74 g55_r:=ok_rlo (S:=g55_S) (tf:=g55_tf) (SysOk.on ⟨g110_ok,g96_ok,trivial⟩ ⟨g16_ok,g18_ok,trivial⟩) (trE_ok (ks:=[]) Tryz.func74 (by kernel_rfl)) fun a=>g55_run a
@[simp] theorem g55_app (y0):g55_r [(.str y0)] = (impl_chainBytes y0).map g55_O :=
  RlO_app (enc:=g55_E) (by intro a b h; simp [g55_E,Prod.ext_iff] at h ⊢; simp [h]) y0
/-! (*strings.Builder).copyCheck -/
noncomputable def g13_r:MRule:=copy_r 111 5
theorem g13_ok:MRuleOk Tryz.prog 122 2 g13_r:=copyCheck_ok
@[simp] theorem g13_app (l:List Bt) {n:Nat} (h:n = l.length):g13_r [.ptr 0 0 0] [.live 2 [[.bself 0 111,owb 1 n 5]],ob 1 l] = some (.tup [],[.live 2 [[.bself 0 111,owb 1 l.length 5]],ob 1 l]):=copy_app 111 5 l h
/-! (*strings.Builder).WriteString -/
def g9_tf:TFn:=⟨(sq [mk 4 (ki 0),mk 5 (.c .nili)] [0,1] (sq [mo 6 0,oo 7 (.callM 122 0 [0,1] [.t 6])] [0,1] (sq [mo 8 0,mo 9 0,nk 10 9,fa 11 1 10,ld 12 11,mo 13 1,oo 14 (.append 5 1 1 (.t 12) (.t 13)),nk 15 8,fa 16 1 15,⟨none,none,(.store 1 (.t 16) (.t 14))⟩] [1] (.seq (.ops [mo 17 1,oo 18 (.len true (.t 17)),mo 4 18,mk 5 (.c .nili)]) (.keep (kp [(4,0),(5,0)] [(0,0),(2,0)] 1) .ret))))),[.t 4,.t 5]⟩
abbrev g9_S:=Sys.on [] [((122,0),(2,g13_r))]
def strings_Builder_WriteString_o0d (a1:List Bt) (a2:Str):Option (List Bt × Int):=(appL 1 a1 ((a2.map Bt.mk))).bind fun l2=>some (l2,(a2.length:Int))
@[simp] def g9_O:(List Bt × Int) → TV × List Blk:=fun r=>((.tup [(.int .i64 r.2),.nili]),[(.live 2 [[(.bself 0 111),(owb 1 r.1.length 5)]]),(ob 1 r.1)])
abbrev g9_T:=List Bt × Str
def g9_E (a:g9_T):List TV:=[(.ptr 0 0 0),(.str a.2)]
def g9_B (a:g9_T):List Blk:=[(.live 2 [[(.bself 0 111),(owb 1 a.1.length 5)]]),(ob 1 a.1)]
theorem g9_run (a1:List Bt) (a2:Str) :callFn (X g9_S) g9_tf (g9_E (a1,a2)) (g9_B (a1,a2)) = (strings_Builder_WriteString_o0d a1 a2).map g9_O:=by
  rw [callFn_eq]
  simp (maxSteps:=2000000) (maxDischargeDepth:=8) -implicitDefEqProofs [g9_tf,strings_Builder_WriteString_o0d,g9_E,g9_B] <;> (try simp only [map_to_bind,some_elim,g9_O])
def g9_r:MRule:=RmO g9_E g9_B (fun a=>strings_Builder_WriteString_o0d a.1 a.2) g9_O
theorem g9_ok:MRuleOk Tryz.prog 76 1 g9_r:=ok_rmo (S:=g9_S) (tf:=g9_tf) (SysOk.on trivial ⟨g13_ok,trivial⟩) (trE_ok (ks:=[]) Tryz.func76 (by kernel_rfl)) (by rfl) (fun _=>by simp [g9_B]) (fun _=>by simp) fun a=>g9_run a.1 a.2
@[simp] theorem g9_app (y0:List Bt)(y1){n1:Nat}(h1:n1 = y0.length):g9_r [(.ptr 0 0 0),(.str y1)] [(.live 2 [[(.bself 0 111),(owb 1 n1 5)]]),(ob 1 y0)] = (strings_Builder_WriteString_o0d y0 y1).map g9_O:=by
  subst h1
  exact RmO_app (enc:=g9_E) (encB:=g9_B) (by intro a b h h2; simp [g9_E,g9_B,Prod.ext_iff] at h h2 ⊢; simp [h,h2]) (y0,y1)
/-! (*strings.Builder).String -/
def g11_tf:TFn:=⟨(sq [mk 2 (.c (.str []))] [0] (.seq (.draw [([],mo 3 0),([0],nk 4 3),([0,1],fa 5 1 4),([0,1,2],ld 6 5),([0,1,2,3],oo 7 (.sdata (.t 6))),([],mo 8 0),([5],nk 9 8),([5,6],fa 10 1 9),([5,6,7],ld 11 10),([5,6,7,8],le 12 11)] [oo 13 (.ustr 5 (.t 7) (.t 12)),mo 2 13]) (.keep (kp [(2,0)] [(0,4)] 1) .ret))),[.t 2]⟩
abbrev g11_S:=Sys.on [] []
def strings_Builder_String_of5 (a1:List Bt):Option (Str):=(strB a1).bind fun s1=>some s1
@[simp] def g11_O:Str → TV × List Blk:=fun r=>((.str r),[.dead])
abbrev g11_T:=List Bt
def g11_E (a:g11_T):List TV:=[(.ptr 0 0 0)]
def g11_B (a:g11_T):List Blk:=[(.live 2 [[(.bself 0 111),(owb 1 a.length 5)]]),(ob 1 a)]
theorem g11_run (a1:List Bt) :callFn (X g11_S) g11_tf (g11_E a1) (g11_B a1) = (strings_Builder_String_of5 a1).map g11_O:=by
  rw [callFn_eq]
  simp (maxSteps:=2000000) (maxDischargeDepth:=8) -implicitDefEqProofs [g11_tf,strings_Builder_String_of5,g11_E,g11_B] <;> (try simp only [map_to_bind,some_elim,g11_O])
def g11_r:MRule:=RmO g11_E g11_B (fun a=>strings_Builder_String_of5 a) g11_O
theorem g11_ok:MRuleOk Tryz.prog 78 1 g11_r:=ok_rmo (S:=g11_S) (tf:=g11_tf) (SysOk.on trivial trivial) (trE_ok (ks:=[[10]]) Tryz.func78 (by kernel_rfl)) (by rfl) (fun _=>by simp [g11_B]) (fun _=>by simp) fun a=>g11_run a
@[simp] theorem g11_app (y0:List Bt){n1:Nat}(h1:n1 = y0.length):g11_r [(.ptr 0 0 0)] [(.live 2 [[(.bself 0 111),(owb 1 n1 5)]]),(ob 1 y0)] = (strings_Builder_String_of5 y0).map g11_O:=by
  subst h1
  exact RmO_app (enc:=g11_E) (encB:=g11_B) (by intro a b h h2; simp [g11_E,g11_B,Prod.ext_iff] at h h2 ⊢; simp [h,h2]) y0
/-! (*impl.decoder).byte -/
def g20_tf:TFn:=⟨(sq [mk 2 (ki 0)] [0] (.seq (.ops [mo 3 0,oo 4 (.callM 117 0 [0] [.t 3,ki 1]),mo 2 4]) (.keep (kp [(2,0)] [(0,0)] 1) .ret))),[.t 2]⟩
abbrev g20_S:=Sys.on [] [((117,0),(1,g16_r))]
def impl_decoder_byte_od0 (a1:Str × Bool):Option ((Str × Bool) × Int):=(impl_decoder_number_o1a a1 1).bind fun r1=>some (r1.1,r1.2)
@[simp] def g20_O:((Str × Bool) × Int) → TV × List Blk:=fun r=>((.int .i64 r.2),[(.live 2 [[(.str r.1.1),(.bool r.1.2)]])])
abbrev g20_T:=(Str × Bool)
def g20_E (a:g20_T):List TV:=[(.ptr 0 0 0)]
def g20_B (a:g20_T):List Blk:=[(.live 2 [[(.str a.1),(.bool a.2)]])]
theorem g20_run (a1:Str × Bool) :callFn (X g20_S) g20_tf (g20_E a1) (g20_B a1) = (impl_decoder_byte_od0 a1).map g20_O:=by
  rw [callFn_eq]
  simp (maxSteps:=2000000) (maxDischargeDepth:=8) -implicitDefEqProofs [g20_tf,impl_decoder_byte_od0,g20_E,g20_B] <;> (try simp only [map_to_bind,some_elim,g20_O])
def g20_r:MRule:=RmO g20_E g20_B (fun a=>impl_decoder_byte_od0 a) g20_O
theorem g20_ok:MRuleOk Tryz.prog 123 1 g20_r:=ok_rmo (S:=g20_S) (tf:=g20_tf) (SysOk.on trivial ⟨g16_ok,trivial⟩) (trE_ok (ks:=[]) Tryz.func123 (by kernel_rfl)) (by rfl) (fun _=>by simp [g20_B]) (fun _=>by simp) fun a=>g20_run a
@[simp] theorem g20_app (y0 y1):g20_r [(.ptr 0 0 0)] [(.live 2 [[(.str y0),(.bool y1)]])] = (impl_decoder_byte_od0 ((y0,y1))).map g20_O:=by
  exact RmO_app (enc:=g20_E) (encB:=g20_B) (by intro a b h h2; simp [g20_E,g20_B,Prod.ext_iff] at h h2 ⊢; simp [h,h2]) ((y0,y1))
/-! impl.messageOk -/
def g70_tf:TFn:=⟨(sq [bx 1 0,mk 2 (kb false)] [1] (.seq (.after (.ops [fa 3 0 1,ld 4 3,ca 5 68 [.t 4,ki 1,ki 9],mo 6 5,⟨(some 7),(some (6,true)),(.faddr 1 (.t 1))⟩,⟨(some 8),(some (6,true)),(.load none (.t 7))⟩,⟨(some 9),(some (6,true)),(.call 68 [.t 8,ki 0,ki 255])⟩,pk 10 (.t 6) (.t 9) (kb false),mo 11 10,⟨(some 12),(some (11,true)),(.faddr 2 (.t 1))⟩,⟨(some 13),(some (11,true)),(.load none (.t 12))⟩,⟨(some 14),(some (11,true)),(.len true (.t 13))⟩,⟨(some 15),(some (11,true)),(.bin .num .leq (.t 14) (ki 200))⟩,pk 16 (.t 11) (.t 15) (kb false),mo 2 16]) (kp [(2,0)] [] 0)) (.keep (kp [(2,0)] [] 0) .ret))),[.t 2]⟩
abbrev g70_S:=Sys.on [(68,g110_r)] []
def impl_messageOk (a_m:Int × Int × Str):Option (Bool):=(impl_within a_m.1 1 9).bind fun r1=>if r1 = true then (impl_within a_m.2.1 0 255).bind fun r2=>if r2 = true then some ((decide ((a_m.2.2.length:Int) ≤ 200))) else some false else some false
@[simp] def g70_O:Bool → TV × List Blk:=fun r=>((.bool r),[])
def g70_E (a:(Int × Int × Str)):List TV:=[(.agg [(.int .i64 a.1),(.int .i64 a.2.1),(.str a.2.2)])]
theorem g70_run (a_m:Int × Int × Str) :callFn (X g70_S) g70_tf (g70_E a_m) [] = (impl_messageOk a_m).map g70_O:=by
  rw [callFn_eq]
  simp (maxSteps:=2000000) (maxDischargeDepth:=8) -implicitDefEqProofs [g70_tf,impl_messageOk,g70_E] <;> (try simp only [map_to_bind,some_elim,g70_O])
def g70_r:Rule:=RlO g70_E (fun a=>impl_messageOk a) g70_O
theorem g70_ok:RuleOk Tryz.prog 150 g70_r:=ok_rlo (S:=g70_S) (tf:=g70_tf) (SysOk.on ⟨g110_ok,trivial⟩ trivial) (trE_ok (ks:=[]) Tryz.func150 (by kernel_rfl)) fun a=>g70_run a
@[simp] theorem g70_app (y0 y1 y2):g70_r [(.agg [(.int .i64 y0),(.int .i64 y1),(.str y2)])] = (impl_messageOk ((y0,y1,y2))).map g70_O :=
  RlO_app (enc:=g70_E) (by intro a b h; simp [g70_E,Prod.ext_iff] at h ⊢; simp [h]) ((y0,y1,y2))
/-! impl.ValidHeader.1 -/
def g26_tf:TFn:=⟨(sq [bx 1 0,mk 2 (kb false)] [1] (.seq (.ops [ln 3 3 1,ca 4 150 [.t 3],nt 5 4,mo 2 5]) (.keep (kp [(2,0)] [] 0) .ret))),[.t 2]⟩
abbrev g26_S:=Sys.on [(150,g70_r)] []
def impl_ValidHeader_c1 (a_m:Int × Int × Str):Option (Bool):=(impl_messageOk a_m).bind fun r1=>some ((!r1))
@[simp] def g26_O:Bool → TV × List Blk:=fun r=>((.bool r),[])
def g26_E (a:(Int × Int × Str)):List TV:=[(.agg [(.int .i64 a.1),(.int .i64 a.2.1),(.str a.2.2)])]
theorem g26_run (a_m:Int × Int × Str) :callFn (X g26_S) g26_tf (g26_E a_m) [] = (impl_ValidHeader_c1 a_m).map g26_O:=by
  rw [callFn_eq]
  simp (maxSteps:=2000000) (maxDischargeDepth:=8) -implicitDefEqProofs [g26_tf,impl_ValidHeader_c1,g26_E] <;> (try simp only [map_to_bind,some_elim,g26_O])
def g26_r:Rule:=RlO g26_E (fun a=>impl_ValidHeader_c1 a) g26_O
theorem g26_ok:RuleOk Tryz.prog 149 g26_r:=ok_rlo (S:=g26_S) (tf:=g26_tf) (SysOk.on ⟨g70_ok,trivial⟩ trivial) (trE_ok (ks:=[]) Tryz.func149 (by kernel_rfl)) fun a=>g26_run a
@[simp] theorem g26_app (y0 y1 y2):g26_r [(.agg [(.int .i64 y0),(.int .i64 y1),(.str y2)])] = (impl_ValidHeader_c1 ((y0,y1,y2))).map g26_O :=
  RlO_app (enc:=g26_E) (by intro a b h; simp [g26_E,Prod.ext_iff] at h ⊢; simp [h]) ((y0,y1,y2))
/-! slices.IndexFunc[[]impl.Message,impl.Message] -/
def g2l1_cb:TC:=(sq [bn 9 .lss (.t 8) (.t 7)] [0,1,7,8,9] (.seq (.cond (.t 9) .skip (.keep (kp [] [] 0) (.exit 0))) (.trim [0,1,7,8] (.seq (.block 1 (sq [mo 10 8,mo 5 10] [0,1,5,7,8] (sq [mo 11 1,mo 12 0,mo 13 5,ia 14 3 12 13,ln 15 3 14,oo 16 (.callv (.t 11) [.t 15])] [0,1,5,7,8,16] (.cond (.t 16) (.seq (.ops [mo 17 5,mo 4 17]) (.keep (kp [(4,0)] [] 0) .ret)) .skip)))) (.trim [0,1,7,8] (.after (.ops [bn 18 .add (.t 8) (ki 1),mo 8 18]) (kp [(0,0),(1,0),(7,0),(8,0)] [] 0)))))))
def g2l1_c:TC:=.loop [0,1,7,8] g2l1_cb
def g2_tf:TFn:=⟨(sq [mk 4 (ki 0)] [0,1] (.seq (sq [mo 6 0,le 7 6,mk 8 (ki 0)] [0,1,7,8] (.block 0 (.keep (kp [(0,0),(1,0),(7,0),(8,0)] [] 0) g2l1_c))) (.trim [] (.seq (.ops [mk 4 (ki (-1))]) (.keep (kp [(4,0)] [] 0) .ret))))),[.t 4]⟩
abbrev g2_S:=Sys.on [(149,g26_r)] []
@[reducible,simp] def g2l1_F:((Unit) ⊕ (Int)) → Out:=(Sum.elim (fun t=>(.ext 0,[],[])) (fun t=>(.ret,[(4,(.int .i64 t))],[])))
def slices_IndexFunc_impl_Message_impl_Message__ValidHeader_c1_l1_b (v1:List (Int × Int × Str)) (v2:Int) (v3:Int):Option ((Int) ⊕ ((Unit) ⊕ (Int))):=if v3 < v2 then if 0 ≤ v3 then (v1[(v3).toNat]?).bind fun x4=>(impl_ValidHeader_c1 x4).bind fun r5=>if r5 = true then some (.inr (.inr v3)) else some (.inl ((IntKind.i64.wrap (v3 + 1)))) else none else some (.inr (.inl ()))
theorem g2l1_b_eq  (v1:List (Int × Int × Str)) (v2:Int) (v3:Int):X g2_S g2l1_cb (keepEnv [0,1,7,8] [(0,(.vs (rows v1))),(1,(.fn 149 [] [])),(7,(.int .i64 v2)),(8,(.int .i64 v3))]) [] = (slices_IndexFunc_impl_Message_impl_Message__ValidHeader_c1_l1_b v1 v2 v3).map (Sum.elim (fun s=>(TX.nrm,[(0,(.vs (rows v1))),(1,(.fn 149 [] [])),(7,(.int .i64 v2)),(8,(.int .i64 s))],[])) g2l1_F):=by
  simp (maxSteps:=2000000) (maxDischargeDepth:=8) -implicitDefEqProofs [g2l1_cb,slices_IndexFunc_impl_Message_impl_Message__ValidHeader_c1_l1_b] <;> (try simp only [map_to_bind,some_elim,g2l1_F])
def slices_IndexFunc_impl_Message_impl_Message__ValidHeader_c1_l1 (v1:List (Int × Int × Str)) (v2:Int) (s:Int):Option ((Unit) ⊕ (Int)):=loopO (fun s=>slices_IndexFunc_impl_Message_impl_Message__ValidHeader_c1_l1_b v1 v2 s) s
@[simp] theorem g2l1_eq (y0 y1 y2):X g2_S g2l1_c [(0,(.vs (rows y0))),(1,(.fn 149 [] [])),(7,(.int .i64 y1)),(8,(.int .i64 y2))] [] = (slices_IndexFunc_impl_Message_impl_Message__ValidHeader_c1_l1 y0 y1 y2).map g2l1_F:=by
  exact loop_X _ _ _ _ (by intro r; first | (simp; done) | (rcases r with r | r <;> simp; done) | (rcases r with r | r | r <;> simp; done) | (rcases r with r | r | r | r <;> simp)) (fun s=>g2l1_b_eq  y0 y1 s) y2
def slices_IndexFunc_impl_Message_impl_Message__ValidHeader_c1 (a_s:List (Int × Int × Str)):Option (Int):=(slices_IndexFunc_impl_Message_impl_Message__ValidHeader_c1_l1 a_s ((a_s.length:Int)) 0).bind fun r6=>Sum.elim (fun u7=>some ((-1))) (fun u8=>some u8) r6
@[simp] def g2_O:Int → TV × List Blk:=fun r=>((.int .i64 r),[])
def g2_E (a:(List (Int × Int × Str))):List TV:=[(.vs (rows a)),(.fn 149 [] [])]
theorem g2_run (a_s:List (Int × Int × Str)) :callFn (X g2_S) g2_tf (g2_E a_s) [] = (slices_IndexFunc_impl_Message_impl_Message__ValidHeader_c1 a_s).map g2_O:=by
  rw [callFn_eq]
  simp (maxSteps:=2000000) (maxDischargeDepth:=8) -implicitDefEqProofs [g2_tf,slices_IndexFunc_impl_Message_impl_Message__ValidHeader_c1,g2_E] <;> (try simp only [map_to_bind,some_elim,g2_O])
def g2_r:Rule:=RlO g2_E (fun a=>slices_IndexFunc_impl_Message_impl_Message__ValidHeader_c1 a) g2_O
theorem g2_ok:RuleOk Tryz.prog 163 g2_r:=ok_rlo (S:=g2_S) (tf:=g2_tf) (SysOk.on ⟨g26_ok,trivial⟩ trivial) (trE_ok (ks:=[[0,1,7,8]]) Tryz.func163 (by kernel_rfl)) fun a=>g2_run a
@[simp] theorem g2_app (y0):g2_r [(.vs (rows y0)),(.fn 149 [] [])] = (slices_IndexFunc_impl_Message_impl_Message__ValidHeader_c1 y0).map g2_O :=
  RlO_app (enc:=g2_E) (by intro a b h; simp [g2_E,Prod.ext_iff] at h ⊢; simp [h]) y0
/-! slices.ContainsFunc[[]impl.Message,impl.Message] -/
def g0_tf:TFn:=⟨(sq [mk 4 (kb false)] [0,1] (.seq (.ops [mo 5 0,mo 6 1,ca 7 163 [.t 5,.t 6],bn 8 .geq (.t 7) (ki 0),mo 4 8]) (.keep (kp [(4,0)] [] 0) .ret))),[.t 4]⟩
abbrev g0_S:=Sys.on [(163,g2_r)] []
def slices_ContainsFunc_impl_Message_impl_Message__ValidHeader_c1 (a_s:List (Int × Int × Str)):Option (Bool):=(slices_IndexFunc_impl_Message_impl_Message__ValidHeader_c1 a_s).bind fun r1=>some ((decide (r1 ≥ 0)))
@[simp] def g0_O:Bool → TV × List Blk:=fun r=>((.bool r),[])
def g0_E (a:(List (Int × Int × Str))):List TV:=[(.vs (rows a)),(.fn 149 [] [])]
theorem g0_run (a_s:List (Int × Int × Str)) :callFn (X g0_S) g0_tf (g0_E a_s) [] = (slices_ContainsFunc_impl_Message_impl_Message__ValidHeader_c1 a_s).map g0_O:=by
  rw [callFn_eq]
  simp (maxSteps:=2000000) (maxDischargeDepth:=8) -implicitDefEqProofs [g0_tf,slices_ContainsFunc_impl_Message_impl_Message__ValidHeader_c1,g0_E] <;> (try simp only [map_to_bind,some_elim,g0_O])
def g0_r:Rule:=RlO g0_E (fun a=>slices_ContainsFunc_impl_Message_impl_Message__ValidHeader_c1 a) g0_O
theorem g0_ok:RuleOk Tryz.prog 148 g0_r:=ok_rlo (S:=g0_S) (tf:=g0_tf) (SysOk.on ⟨g2_ok,trivial⟩ trivial) (trE_ok (ks:=[]) Tryz.func148 (by kernel_rfl)) fun a=>g0_run a
@[simp] theorem g0_app (y0):g0_r [(.vs (rows y0)),(.fn 149 [] [])] = (slices_ContainsFunc_impl_Message_impl_Message__ValidHeader_c1 y0).map g0_O :=
  RlO_app (enc:=g0_E) (by intro a b h; simp [g0_E,Prod.ext_iff] at h ⊢; simp [h]) y0
/-! impl.ValidHeader -/
def g44_tf:TFn:=⟨(sq [bx 1 0,mk 2 (kb false)] [1] (.seq (.after (.ops [fa 3 0 1,ld 4 3,ca 5 68 [.t 4,ki 1,ki 3],mo 6 5,⟨(some 7),(some (6,true)),(.faddr 1 (.t 1))⟩,⟨(some 8),(some (6,true)),(.load none (.t 7))⟩,⟨(some 9),(some (6,true)),(.call 68 [.t 8,ki 0,ki 1000])⟩,pk 10 (.t 6) (.t 9) (kb false),mo 11 10,⟨(some 12),(some (11,true)),(.faddr 2 (.t 1))⟩,⟨(some 13),(some (11,true)),(.load none (.t 12))⟩,⟨(some 14),(some (11,true)),(.len false (.t 13))⟩,⟨(some 15),(some (11,true)),(.bin .num .leq (.t 14) (ki 24))⟩,pk 16 (.t 11) (.t 15) (kb false),mo 17 16,⟨(some 18),(some (17,true)),(.faddr 2 (.t 1))⟩,⟨(some 19),(some (17,true)),(.load none (.t 18))⟩,⟨(some 20),(some (17,true)),(.call 148 [.t 19,(.c (.fn 149 [] []))])⟩,⟨(some 21),(some (17,true)),(.un .not (.t 20))⟩,pk 22 (.t 17) (.t 21) (kb false),mo 2 22]) (kp [(2,0)] [] 0)) (.keep (kp [(2,0)] [] 0) .ret))),[.t 2]⟩
abbrev g44_S:=Sys.on [(68,g110_r),(148,g0_r)] []
def impl_ValidHeader (a_h:K2):Option (Bool):=(impl_within a_h.1 1 3).bind fun r1=>if r1 = true then (impl_within a_h.2.1 0 1000).bind fun r2=>if r2 = true then if (a_h.2.2.length:Int) ≤ 24 then (slices_ContainsFunc_impl_Message_impl_Message__ValidHeader_c1 a_h.2.2).bind fun r3=>some ((!r3)) else some false else some false else some false
@[simp] def g44_O:Bool → TV × List Blk:=fun r=>((.bool r),[])
def g44_E (a:K2):List TV:=[(.agg [(.int .i64 a.1),(.int .i64 a.2.1),(.vs (rows a.2.2))])]
theorem g44_run (a_h:K2) :callFn (X g44_S) g44_tf (g44_E a_h) [] = (impl_ValidHeader a_h).map g44_O:=by
  rw [callFn_eq]
  simp (maxSteps:=2000000) (maxDischargeDepth:=8) -implicitDefEqProofs [g44_tf,impl_ValidHeader,g44_E] <;> (try simp only [map_to_bind,some_elim,g44_O])
def g44_r:Rule:=RlO g44_E (fun a=>impl_ValidHeader a) g44_O
theorem g44_ok:RuleOk Tryz.prog 124 g44_r:=ok_rlo (S:=g44_S) (tf:=g44_tf) (SysOk.on ⟨g110_ok,g0_ok,trivial⟩ trivial) (trE_ok (ks:=[]) Tryz.func124 (by kernel_rfl)) fun a=>g44_run a
@[simp] theorem g44_app (y0 y1 y2):g44_r [(.agg [(.int .i64 y0),(.int .i64 y1),(.vs (rows y2))])] = (impl_ValidHeader ((y0,y1,y2))).map g44_O :=
  RlO_app (enc:=g44_E) (by intro a b h; simp [g44_E,Prod.ext_iff] at h ⊢; simp [h]) ((y0,y1,y2))
@[simp] theorem g44_app_a_h_2 (y0 y1):g44_r [(.agg [(.int .i64 y0),(.int .i64 y1),(.vs [])])] = (impl_ValidHeader ((y0,y1,([]:List (Int × Int × Str))))).map g44_O :=
  g44_app y0 y1 ([]:List (Int × Int × Str)) 
/-! impl.DecodeHeader -/
def g38l1_cb:TC:=(.seq (sq [mo 17 6,bn 18 .gtr (.t 17) (ki 0),mo 19 18,⟨(some 20),(some (19,true)),(.mv (.t 4))⟩,⟨(some 21),(some (19,true)),(.nilchk (.t 20))⟩,⟨(some 22),(some (19,true)),(.faddr 1 (.t 21))⟩,⟨(some 23),(some (19,true)),(.load none (.t 22))⟩,⟨(some 24),(some (19,true)),(.un .not (.t 23))⟩,pk 25 (.t 19) (.t 24) (kb false)] [2,4,5,6,25] (.cond (.t 25) .skip (.keep (kp [(2,0),(4,0),(5,0)] [(0,2),(1,0),(2,2),(3,1)] 0) (.exit 0)))) (.trim [2,4,5,6] (.seq (.block 1 (.drawF [(none,fa 28 2 5),(none,ld 29 28),(none,mo 30 4),(none,mo 32 4),(none,mo 34 4),(none,mo 35 4),(some [28,29,32,34,35],oo 31 (.callM 123 0 [1] [.t 30])),(some [28,29,34,35],oo 33 (.callM 123 0 [1] [.t 32])),(some [28,29,34],oo 36 (.callM 123 0 [1] [.t 35])),(some [28,29],oo 37 (.callM 118 0 [1] [.t 34,.t 36])),(some [28,29],oo 38 (.build [(.int .i64 0),(.int .i64 0),(.str [])] [(0,1,(.t 31)),(1,1,(.t 33)),(2,1,(.t 37))])),(some [28,29],oo 39 (.bslice [(.int .i64 0),(.int .i64 0),(.str [])] 1 [(0,(.t 38))]))] [oo 40 (.append 127 3 32 (.t 29) (.t 39)),fa 41 2 5,⟨none,none,(.store 1 (.t 41) (.t 40))⟩])) (.trim [2,4,5,6] (.after (.ops [mo 26 6,bn 27 .sub (.t 26) (ki 1),mo 6 27]) (kp [(2,0),(4,0),(5,0),(6,0)] [(0,2),(1,0),(2,2),(5,1)] 0))))))
def g38l1_c:TC:=.loop [2,4,5,6] g38l1_cb
def g38_tf:TFn:=⟨(sq [oo 2 (.alloc [(.int .i64 0),(.int .i64 0),.nils]),mk 3 (kb false)] [0,2] (sq [mo 7 0,oo 8 (.build [(.str []),(.bool false)] [(0,1,(.t 7))]),bx 9 8,mo 4 9] [2,4] (sq [mo 10 4,oo 11 (.callM 123 0 [1] [.t 10]),mo 12 4,oo 13 (.callM 117 0 [1] [.t 12,ki 2]),oo 14 (.build [(.int .i64 0),(.int .i64 0),.nils] [(0,1,(.t 11)),(1,1,(.t 13))]),oo 5 (.alloc [(.int .i64 0),(.int .i64 0),.nils]),⟨none,none,(.store 3 (.t 5) (.t 14))⟩] [2,4,5] (.seq (sq [mo 15 4,oo 16 (.callM 123 0 [1] [.t 15]),mo 6 16] [2,4,5,6] (.block 0 (.keep (kp [(2,0),(4,0),(5,0),(6,0)] [(0,2),(1,0),(2,2),(1000,1)] 0) g38l1_c))) (.trim [2,4,5] (.seq (sq [mo 42 4,nk 43 42,fa 44 1 43,ld 45 44,mo 46 45,⟨(some 47),(some (46,false)),(.mv (.t 4))⟩,⟨(some 48),(some (46,false)),(.nilchk (.t 47))⟩,⟨(some 49),(some (46,false)),(.faddr 0 (.t 48))⟩,⟨(some 50),(some (46,false)),(.load none (.t 49))⟩,⟨(some 51),(some (46,false)),(.bin .str .neq (.t 50) (.c (.str [])))⟩,pk 52 (.t 46) (kb true) (.t 51),mo 53 52,⟨(some 54),(some (53,false)),(.load (some 3) (.t 5))⟩,⟨(some 55),(some (53,false)),(.call 124 [.t 54])⟩,⟨(some 56),(some (53,false)),(.un .not (.t 55))⟩,pk 57 (.t 53) (kb true) (.t 56)] [2,5,57] (.cond (.t 57) (.seq (.ops [oo 58 (.build [(.int .i64 0),(.int .i64 0),.nils] []),⟨none,none,(.store 3 (.t 2) (.t 58))⟩,mk 3 (kb false)]) (.keep (kp [(2,0),(3,0)] [(0,2),(1000,1)] 0) .ret)) .skip)) (.trim [2,5] (.seq (.ops [ln 59 3 5,⟨none,none,(.store 3 (.t 2) (.t 59))⟩,mk 3 (kb true)]) (.keep (kp [(2,0),(3,0)] [(0,2),(3,1)] 0) .ret))))))))),[.cell 2 (some 3),.t 3]⟩
abbrev g38_S:=Sys.on [(124,g44_r)] [((123,0),(1,g20_r)),((117,0),(1,g16_r)),((118,0),(1,g18_r))]
@[reducible,simp] def g38l1_F:(Int × Int × (Str × Bool) × K2) → Out:=(fun t=>(.ext 0,[(2,(.ptr 0 0 0)),(4,(.ptr 1 0 0)),(5,(.ptr 2 0 0))],[(.live 3 [[(.int .i64 t.1),(.int .i64 t.2.1),.es]]),(.live 2 [[(.str t.2.2.1.1),(.bool t.2.2.1.2)]]),(.live 3 [[(.int .i64 t.2.2.2.1),(.int .i64 t.2.2.2.2.1),(ow 3 t.2.2.2.2.2.length)]]),(ob 3 t.2.2.2.2.2)]))
def impl_DecodeHeader_l1_b (v4:Int) (v5:Int) (v6:Str × Bool) (v7:K2) (v8:Int):Option (((Str × Bool) × K2 × Int) ⊕ (Int × Int × (Str × Bool) × K2)):=if v8 > 0 then if ¬(v6.2 = true) then (impl_decoder_byte_od0 v6).bind fun r9=>(impl_decoder_byte_od0 r9.1).bind fun r10=>(impl_decoder_byte_od0 r10.1).bind fun r11=>(impl_decoder_take_o1a r11.1 r11.2).bind fun r12=>(appL 32 v7.2.2 ((lit [(r9.2,r10.2,r12.2)]:List (Int × Int × Str)))).bind fun l13=>some (.inl (r12.1,(v7.1,v7.2.1,l13),(IntKind.i64.wrap (v8 - 1)))) else some (.inr (v4,v5,v6,v7)) else some (.inr (v4,v5,v6,v7))
theorem g38l1_b_eq  (v4:Int) (v5:Int) (v6:Str × Bool) (v7:K2) (v8:Int):X g38_S g38l1_cb (keepEnv [2,4,5,6] [(2,(.ptr 0 0 0)),(4,(.ptr 1 0 0)),(5,(.ptr 2 0 0)),(6,(.int .i64 v8))]) [(.live 3 [[(.int .i64 v4),(.int .i64 v5),.es]]),(.live 2 [[(.str v6.1),(.bool v6.2)]]),(.live 3 [[(.int .i64 v7.1),(.int .i64 v7.2.1),(ow 3 v7.2.2.length)]]),(ob 3 v7.2.2)] = (impl_DecodeHeader_l1_b v4 v5 v6 v7 v8).map (Sum.elim (fun s=>(TX.nrm,[(2,(.ptr 0 0 0)),(4,(.ptr 1 0 0)),(5,(.ptr 2 0 0)),(6,(.int .i64 s.2.2))],[(.live 3 [[(.int .i64 v4),(.int .i64 v5),.es]]),(.live 2 [[(.str s.1.1),(.bool s.1.2)]]),(.live 3 [[(.int .i64 s.2.1.1),(.int .i64 s.2.1.2.1),(ow 3 s.2.1.2.2.length)]]),(ob 3 s.2.1.2.2)])) g38l1_F):=by
  simp (maxSteps:=2000000) (maxDischargeDepth:=8) -implicitDefEqProofs [g38l1_cb,impl_DecodeHeader_l1_b,bslV_lit (α:=Int × Int × Str) (zs:=[(.int .i64 0),(.int .i64 0),(.str [])])] <;> (try simp only [map_to_bind,some_elim,g38l1_F])
def impl_DecodeHeader_l1 (v4:Int) (v5:Int) (s:(Str × Bool) × K2 × Int):Option (Int × Int × (Str × Bool) × K2):=loopO (fun s=>impl_DecodeHeader_l1_b v4 v5 s.1 s.2.1 s.2.2) s
@[simp] theorem g38l1_eq (y0 y1 y2 y3 y4 y5 y6 y7):X g38_S g38l1_c [(2,(.ptr 0 0 0)),(4,(.ptr 1 0 0)),(5,(.ptr 2 0 0)),(6,(.int .i64 y7))] [(.live 3 [[(.int .i64 y0),(.int .i64 y1),.es]]),(.live 2 [[(.str y2),(.bool y3)]]),(.live 3 [[(.int .i64 y4),(.int .i64 y5),(ow 3 y6.length)]]),(ob 3 y6)] = (impl_DecodeHeader_l1 y0 y1 ((y2,y3),(y4,y5,y6),y7)).map g38l1_F:=by
  exact loop_X _ _ _ _ (by intro r; first | (simp; done) | (rcases r with r | r <;> simp; done) | (rcases r with r | r | r <;> simp; done) | (rcases r with r | r | r | r <;> simp)) (fun s=>g38l1_b_eq  y0 y1 s.1 s.2.1 s.2.2) ((y2,y3),(y4,y5,y6),y7)
@[simp] theorem g38l1_eq_3x2 (y0 y1 y2 y3 y4 y5 y6):X g38_S g38l1_c [(2,(.ptr 0 0 0)),(4,(.ptr 1 0 0)),(5,(.ptr 2 0 0)),(6,(.int .i64 y6))] [(.live 3 [[(.int .i64 y0),(.int .i64 y1),.es]]),(.live 2 [[(.str y2),(.bool y3)]]),(.live 3 [[(.int .i64 y4),(.int .i64 y5),.es]]),.dead] = (impl_DecodeHeader_l1 y0 y1 ((y2,y3),(y4,y5,([]:List (Int × Int × Str))),y6)).map g38l1_F :=
  g38l1_eq  y0 y1 y2 y3 y4 y5 ([]:List (Int × Int × Str)) y6 
def impl_DecodeHeader (a_s:Str):Option (K2 × Bool):=(impl_decoder_byte_od0 ((a_s,false))).bind fun r1=>(impl_decoder_number_o1a r1.1 2).bind fun r2=>(impl_decoder_byte_od0 r2.1).bind fun r3=>(impl_DecodeHeader_l1 0 0 ((r3.1,(r1.2,r2.2,([]:List (Int × Int × Str))),r3.2))).bind fun r14=>if r14.2.2.1.2 = true then some ((0,0,([]:List (Int × Int × Str))),false) else if ¬(r14.2.2.1.1 = ([]:Str)) then some ((0,0,([]:List (Int × Int × Str))),false) else (impl_ValidHeader r14.2.2.2).bind fun r15=>if ¬(r15 = true) then some ((0,0,([]:List (Int × Int × Str))),false) else some (r14.2.2.2,true)
@[simp] def g38_O:(K2 × Bool) → TV × List Blk:=fun r=>((.tup [(.agg [(.int .i64 r.1.1),(.int .i64 r.1.2.1),(ow 1 r.1.2.2.length)]),(.bool r.2)]),[(.live 3 [[(.int .i64 r.1.1),(.int .i64 r.1.2.1),(ow 1 r.1.2.2.length)]]),(ob 3 r.1.2.2)])
def g38_E (a:Str):List TV:=[(.str a)]
theorem g38_run (a_s:Str) :callFn (X g38_S) g38_tf (g38_E a_s) [] = (impl_DecodeHeader a_s).map g38_O:=by
  rw [callFn_eq]
  simp (maxSteps:=2000000) (maxDischargeDepth:=8) -implicitDefEqProofs [g38_tf,impl_DecodeHeader,g38_E,bslV_lit (α:=Int × Int × Str) (zs:=[(.int .i64 0),(.int .i64 0),(.str [])])] <;> (try simp only [map_to_bind,some_elim,g38_O])
def g38_r:Rule:=RlO g38_E (fun a=>impl_DecodeHeader a) g38_O
theorem g38_ok:RuleOk Tryz.prog 77 g38_r:=ok_rlo (S:=g38_S) (tf:=g38_tf) (SysOk.on ⟨g44_ok,trivial⟩ ⟨g20_ok,g16_ok,g18_ok,trivial⟩) (trE_ok (ks:=[[2,4,5,6],[12,2000000,15,0,1,2,4,6,7,3,5,8,9,10,11,12,13,14,0,0,0,0,0,0,6,28,29,32,34,35,5,28,29,34,35,4,28,29,34,3,28,29,3,28,29,3,28,29]]) Tryz.func77 (by kernel_rfl)) fun a=>g38_run a
@[simp] theorem g38_app (y0):g38_r [(.str y0)] = (impl_DecodeHeader y0).map g38_O :=
  RlO_app (enc:=g38_E) (by intro a b h; simp [g38_E,Prod.ext_iff] at h ⊢; simp [h]) y0
/-! (*impl.Pager).chain -/
def g45p2_c:TC:=(.block 1 (.seq (sq [mo 20 0,mo 21 1,ca 22 72 [.t 20,.t 21],nt 23 22,mo 24 23,⟨(some 25),(some (24,false)),(.mv (.t 7))⟩,⟨(some 26),(some (24,false)),(.mv (.t 1))⟩,⟨(some 27),(some (24,false)),(.call 73 [.t 25,.t 26])⟩,pk 28 (.t 24) (kb true) (.t 27)] [0,1,5,7,8,28] (.cond (.t 28) (.seq (.ops [oo 29 (.build [(.int .i64 0),(.int .i64 0),.nils] []),mk 4 (.c .nils),⟨none,none,(.store 3 (.t 5) (.t 29))⟩,mk 6 (kb false)]) (.keep (kp [(4,1),(5,0),(6,0)] [(1000,1),(0,2),(1001,1)] 0) .ret)) .skip)) (.trim [0,1,5,7,8] (sq [mo 30 7,mo 31 1,oo 32 (.bslice [(.int .i64 0)] 1 [(0,(.t 31))]),oo 33 (.append 2 1 8 (.t 30) (.t 32)),mo 7 33] [0,1,5,7,8] (sq [mk 10 (.c (.str []))] [0,1,5,7,8] (.seq (sq [mo 35 0,mo 36 1,ca 37 75 [.t 35,.t 36],ca 38 74 [.t 37],mo 34 38,oo 39 (.ext (.t 34) 0),oo 40 (.ext (.t 34) 1),oo 41 (.ext (.t 34) 2),mo 1 39,mo 10 40,mo 9 41] [0,1,5,7,8,9,10] (sq [mo 42 9,nt 43 42] [0,1,5,7,8,10,43] (.cond (.t 43) (.seq (.ops [oo 44 (.build [(.int .i64 0),(.int .i64 0),.nils] []),mk 4 (.c .nils),⟨none,none,(.store 3 (.t 5) (.t 44))⟩,mk 6 (kb false)]) (.keep (kp [(4,1),(5,0),(6,0)] [(1000,1),(0,2),(1001,1)] 0) .ret)) .skip))) (.trim [0,1,5,7,8,10] (.after (.ops [mo 45 10,oo 46 (.callM 76 0 [2,3] [.t 8,.t 45])]) (kp [(0,0),(1,0),(5,0),(7,1),(8,0)] [(0,2),(5,1),(2,0),(6,0)] 0)))))))))
def g45l1_cb:TC:=(.seq (sq [mo 13 1,bn 14 .neq (.t 13) (ki 0),mo 15 14,⟨(some 16),(some (15,false)),(.mv (.t 7))⟩,⟨(some 17),(some (15,false)),(.len false (.t 16))⟩,⟨(some 18),(some (15,false)),(.bin .num .eql (.t 17) (ki 0))⟩,pk 19 (.t 15) (kb true) (.t 18)] [0,1,5,7,8,19] (.cond (.t 19) (.keep (kp [(0,0),(1,0),(5,0),(7,1),(8,0)] [(0,2),(1,1),(2,0),(3,0)] 0) .skip) (.keep (kp [(5,0),(7,1),(8,0)] [(0,2),(1,1),(2,0),(3,0)] 0) (.exit 0)))) (.trim [0,1,5,7,8] g45p2_c))
def g45l1_c:TC:=.loop [0,1,5,7,8] g45l1_cb
def g45_tf:TFn:=⟨(sq [mk 4 (.c .nils),oo 5 (.alloc [(.int .i64 0),(.int .i64 0),.nils]),mk 6 (kb false)] [0,1,5] (sq [mk 7 (.c .nils)] [0,1,5,7] (sq [oo 8 (.allocB 111)] [0,1,5,7,8] (.seq (sq [mk 9 (kb true)] [0,1,5,7,8] (.block 0 (.keep (kp [(0,0),(1,0),(5,0),(7,1),(8,0)] [(0,2),(1000,1),(1,0),(2,0)] 0) g45l1_c))) (.trim [5,7,8] (sq [oo 48 (.callM 78 0 [2,3] [.t 8]),ca 49 77 [.t 48],mo 47 49,oo 50 (.ext (.t 47) 0),oo 51 (.ext (.t 47) 1),oo 11 (.alloc [(.int .i64 0),(.int .i64 0),.nils]),⟨none,none,(.store 3 (.t 11) (.t 50))⟩,mo 12 51] [5,7,11,12] (.seq (.drawF [(none,mo 52 7),(none,ln 53 3 11),(none,mo 54 12),(none,mo 4 52),(some [54],⟨none,none,(.store 3 (.t 5) (.t 53))⟩)] [mo 6 54]) (.keep (kp [(4,1),(5,0),(6,0)] [(1,1),(0,2),(5,1)] 0) .ret)))))))),[.t 4,.cell 5 (some 3),.t 6]⟩
abbrev g45_S:=Sys.on [(72,g24_r),(73,g10_r),(75,g69_r),(74,g55_r),(77,g38_r)] [((76,0),(1,g9_r)),((78,0),(1,g11_r))]
def impl_Pager_chain_p2 (v7:K1) (v8:Int) (v9:Int) (v10:Int) (v11:List Int) (v12:List Bt):Option ((List Int × K2 × Bool) ⊕ (K1 × Int × Int × Int × List Int × List Bt)):=(impl_Pager_allocated v7 v8).bind fun r13=>if ¬(r13 = true) then some ((.inl (([]:List Int),(0,0,([]:List (Int × Int × Str))),false))) else (slices_Contains_int64_int64_ v11 v8).bind fun r14=>if r14 = true then some ((.inl (([]:List Int),(0,0,([]:List (Int × Int × Str))),false))) else (appL 8 v11 ((lit [v8]:List Int))).bind fun l15=>(impl_Pager_get v7 v8).bind fun r16=>(impl_chainBytes r16).bind fun r17=>if ¬(r17.2.2 = true) then some ((.inl (([]:List Int),(0,0,([]:List (Int × Int × Str))),false))) else (strings_Builder_WriteString_o0d v12 r17.2.1).bind fun r18=>some ((.inr (v7,r17.1,v9,v10,l15,r18.1)))
@[simp] theorem g45p2_eq (q0:List TV)(y0 y1 y2 y3 y4 y5 y6 y7 y8 y9 y10 y11 y12 y13 y14)(y15:List Int)(y16){n1:Nat}(h1:n1 = y15.length):X g45_S g45p2_c [(0,(.vp ((.vs (rows y0))::(.vs (rows y1))::(.int .i64 y2)::(.bool y3)::(.int .i64 y4)::(.int .i64 y5)::(.int .i64 y6)::(.int .i64 y7)::(.int .i64 y8)::(.int .i64 y9)::(.vs (rows y10))::(.vs (rows y11))::q0))),(1,(.int .i64 y12)),(5,(.ptr 0 0 0)),(7,(ow 1 n1)),(8,(.ptr 2 0 0))] [(.live 3 [[(.int .i64 y13),(.int .i64 y14),.es]]),(ob 1 y15),(.live 2 [[(.bself 2 111),(owb 3 y16.length 5)]]),(ob 1 y16)] = (impl_Pager_chain_p2 (((y0,y1,y2,y3),(y4,y5,y6,y7),y8,y9,y10,y11)) y12 y13 y14 y15 y16).map (Sum.elim (fun t=>(.ret,[(4,(ow 0 t.1.length)),(5,(.ptr 1 0 0)),(6,(.bool t.2.2))],[(ob 1 t.1),(.live 3 [[(.int .i64 t.2.1.1),(.int .i64 t.2.1.2.1),(ow 2 t.2.1.2.2.length)]]),(ob 3 t.2.1.2.2)])) (fun t=>(.nrm,[(0,(.vp ((.vs (rows t.1.1.1))::(.vs (rows t.1.1.2.1))::(.int .i64 t.1.1.2.2.1)::(.bool t.1.1.2.2.2)::(.int .i64 t.1.2.1.1)::(.int .i64 t.1.2.1.2.1)::(.int .i64 t.1.2.1.2.2.1)::(.int .i64 t.1.2.1.2.2.2)::(.int .i64 t.1.2.2.1)::(.int .i64 t.1.2.2.2.1)::(.vs (rows t.1.2.2.2.2.1))::(.vs (rows t.1.2.2.2.2.2))::q0))),(1,(.int .i64 t.2.1)),(5,(.ptr 0 0 0)),(7,(ow 1 t.2.2.2.2.1.length)),(8,(.ptr 2 0 0))],[(.live 3 [[(.int .i64 t.2.2.1),(.int .i64 t.2.2.2.1),.es]]),(ob 1 t.2.2.2.2.1),(.live 2 [[(.bself 2 111),(owb 3 t.2.2.2.2.2.length 5)]]),(ob 1 t.2.2.2.2.2)]))):=by
  subst h1
  simp (maxSteps:=2000000) (maxDischargeDepth:=8) -implicitDefEqProofs [g45p2_c,impl_Pager_chain_p2,bslV_lit (α:=Int) (zs:=[(.int .i64 0)])] <;> (try simp only [map_to_bind,some_elim])
@[reducible,simp] def g45l1_F:((List Int × K2 × Bool) ⊕ (Int × Int × List Int × List Bt)) → Out:=(Sum.elim (fun t=>(.ret,[(4,(ow 0 t.1.length)),(5,(.ptr 1 0 0)),(6,(.bool t.2.2))],[(ob 1 t.1),(.live 3 [[(.int .i64 t.2.1.1),(.int .i64 t.2.1.2.1),(ow 2 t.2.1.2.2.length)]]),(ob 3 t.2.1.2.2)])) (fun t=>(.ext 0,[(5,(.ptr 0 0 0)),(7,(ow 1 t.2.2.1.length)),(8,(.ptr 2 0 0))],[(.live 3 [[(.int .i64 t.1),(.int .i64 t.2.1),.es]]),(ob 1 t.2.2.1),(.live 2 [[(.bself 2 111),(owb 3 t.2.2.2.length 5)]]),(ob 1 t.2.2.2)])))
def impl_Pager_chain_l1_b (v1:K1) (v2:Int) (v3:Int) (v4:Int) (v5:List Int) (v6:List Bt):Option ((K1 × Int × Int × Int × List Int × List Bt) ⊕ ((List Int × K2 × Bool) ⊕ (Int × Int × List Int × List Bt))):=if ¬(v2 = 0) then (impl_Pager_chain_p2 v1 v2 v3 v4 v5 v6).bind fun r19=>Sum.elim (fun u20=>some (.inr (.inl (u20.1,u20.2.1,u20.2.2)))) (fun u21=>some (.inl (u21.1,u21.2.1,u21.2.2.1,u21.2.2.2.1,u21.2.2.2.2.1,u21.2.2.2.2.2))) r19 else if ((v5.length:Nat):Int) = 0 then (impl_Pager_chain_p2 v1 v2 v3 v4 v5 v6).bind fun r22=>Sum.elim (fun u23=>some (.inr (.inl (u23.1,u23.2.1,u23.2.2)))) (fun u24=>some (.inl (u24.1,u24.2.1,u24.2.2.1,u24.2.2.2.1,u24.2.2.2.2.1,u24.2.2.2.2.2))) r22 else some (.inr (.inr (v3,v4,v5,v6)))
theorem g45l1_b_eq (q0:List TV) (v1:K1) (v2:Int) (v3:Int) (v4:Int) (v5:List Int) (v6:List Bt):X g45_S g45l1_cb (keepEnv [0,1,5,7,8] [(0,(.vp ((.vs (rows v1.1.1))::(.vs (rows v1.1.2.1))::(.int .i64 v1.1.2.2.1)::(.bool v1.1.2.2.2)::(.int .i64 v1.2.1.1)::(.int .i64 v1.2.1.2.1)::(.int .i64 v1.2.1.2.2.1)::(.int .i64 v1.2.1.2.2.2)::(.int .i64 v1.2.2.1)::(.int .i64 v1.2.2.2.1)::(.vs (rows v1.2.2.2.2.1))::(.vs (rows v1.2.2.2.2.2))::q0))),(1,(.int .i64 v2)),(5,(.ptr 0 0 0)),(7,(ow 1 v5.length)),(8,(.ptr 2 0 0))]) [(.live 3 [[(.int .i64 v3),(.int .i64 v4),.es]]),(ob 1 v5),(.live 2 [[(.bself 2 111),(owb 3 v6.length 5)]]),(ob 1 v6)] = (impl_Pager_chain_l1_b v1 v2 v3 v4 v5 v6).map (Sum.elim (fun s=>(TX.nrm,[(0,(.vp ((.vs (rows s.1.1.1))::(.vs (rows s.1.1.2.1))::(.int .i64 s.1.1.2.2.1)::(.bool s.1.1.2.2.2)::(.int .i64 s.1.2.1.1)::(.int .i64 s.1.2.1.2.1)::(.int .i64 s.1.2.1.2.2.1)::(.int .i64 s.1.2.1.2.2.2)::(.int .i64 s.1.2.2.1)::(.int .i64 s.1.2.2.2.1)::(.vs (rows s.1.2.2.2.2.1))::(.vs (rows s.1.2.2.2.2.2))::q0))),(1,(.int .i64 s.2.1)),(5,(.ptr 0 0 0)),(7,(ow 1 s.2.2.2.2.1.length)),(8,(.ptr 2 0 0))],[(.live 3 [[(.int .i64 s.2.2.1),(.int .i64 s.2.2.2.1),.es]]),(ob 1 s.2.2.2.2.1),(.live 2 [[(.bself 2 111),(owb 3 s.2.2.2.2.2.length 5)]]),(ob 1 s.2.2.2.2.2)])) g45l1_F):=by
  simp (maxSteps:=2000000) (maxDischargeDepth:=8) -implicitDefEqProofs [g45l1_cb,impl_Pager_chain_l1_b,bslV_lit (α:=Int) (zs:=[(.int .i64 0)])] <;> (try simp only [map_to_bind,some_elim,g45l1_F])
def impl_Pager_chain_l1  (s:K1 × Int × Int × Int × List Int × List Bt):Option ((List Int × K2 × Bool) ⊕ (Int × Int × List Int × List Bt)):=loopO (fun s=>impl_Pager_chain_l1_b  s.1 s.2.1 s.2.2.1 s.2.2.2.1 s.2.2.2.2.1 s.2.2.2.2.2) s
@[simp] theorem g45l1_eq (q0:List TV)(y0 y1 y2 y3 y4 y5 y6 y7 y8 y9 y10 y11 y12 y13 y14)(y15:List Int)(y16){n1:Nat}(h1:n1 = y15.length):X g45_S g45l1_c [(0,(.vp ((.vs (rows y0))::(.vs (rows y1))::(.int .i64 y2)::(.bool y3)::(.int .i64 y4)::(.int .i64 y5)::(.int .i64 y6)::(.int .i64 y7)::(.int .i64 y8)::(.int .i64 y9)::(.vs (rows y10))::(.vs (rows y11))::q0))),(1,(.int .i64 y12)),(5,(.ptr 0 0 0)),(7,(ow 1 n1)),(8,(.ptr 2 0 0))] [(.live 3 [[(.int .i64 y13),(.int .i64 y14),.es]]),(ob 1 y15),(.live 2 [[(.bself 2 111),(owb 3 y16.length 5)]]),(ob 1 y16)] = (impl_Pager_chain_l1  (((y0,y1,y2,y3),(y4,y5,y6,y7),y8,y9,y10,y11),y12,y13,y14,y15,y16)).map g45l1_F:=by
  subst h1
  exact loop_X _ _ _ _ (by intro r; first | (simp; done) | (rcases r with r | r <;> simp; done) | (rcases r with r | r | r <;> simp; done) | (rcases r with r | r | r | r <;> simp)) (fun s=>g45l1_b_eq q0  s.1 s.2.1 s.2.2.1 s.2.2.2.1 s.2.2.2.2.1 s.2.2.2.2.2) (((y0,y1,y2,y3),(y4,y5,y6,y7),y8,y9,y10,y11),y12,y13,y14,y15,y16)
@[simp] theorem g45l1_eq_4 (q0:List TV)(y0 y1 y2 y3 y4 y5 y6 y7 y8 y9 y10 y11 y12 y13 y14 y15):X g45_S g45l1_c [(0,(.vp ((.vs (rows y0))::(.vs (rows y1))::(.int .i64 y2)::(.bool y3)::(.int .i64 y4)::(.int .i64 y5)::(.int .i64 y6)::(.int .i64 y7)::(.int .i64 y8)::(.int .i64 y9)::(.vs (rows y10))::(.vs (rows y11))::q0))),(1,(.int .i64 y12)),(5,(.ptr 0 0 0)),(7,.es),(8,(.ptr 2 0 0))] [(.live 3 [[(.int .i64 y13),(.int .i64 y14),.es]]),.dead,(.live 2 [[(.bself 2 111),(owb 3 y15.length 5)]]),(ob 1 y15)] = (impl_Pager_chain_l1  (((y0,y1,y2,y3),(y4,y5,y6,y7),y8,y9,y10,y11),y12,y13,y14,([]:List Int),y15)).map g45l1_F :=
  g45l1_eq q0 y0 y1 y2 y3 y4 y5 y6 y7 y8 y9 y10 y11 y12 y13 y14 ([]:List Int) y15 rfl
def impl_Pager_chain (a_p:K1) (a_at:Int):Option (List Int × K2 × Bool):=(impl_Pager_chain_l1 ((a_p,a_at,0,0,([]:List Int),nilB))).bind fun r25=>Sum.elim (fun u26=>some (u26.1,u26.2.1,u26.2.2)) (fun u27=>(strings_Builder_String_of5 u27.2.2.2).bind fun r28=>(impl_DecodeHeader r28).bind fun r29=>some (u27.2.2.1,r29.1,r29.2)) r25
@[simp] def g45_O:(List Int × K2 × Bool) → TV × List Blk:=fun r=>((.tup [(ow 0 r.1.length),(.agg [(.int .i64 r.2.1.1),(.int .i64 r.2.1.2.1),(ow 2 r.2.1.2.2.length)]),(.bool r.2.2)]),[(ob 1 r.1),(.live 3 [[(.int .i64 r.2.1.1),(.int .i64 r.2.1.2.1),(ow 2 r.2.1.2.2.length)]]),(ob 3 r.2.1.2.2)])
def g45_E (a:K1 × Int × List TV):List TV:=[(.vp ((.vs (rows a.1.1.1))::(.vs (rows a.1.1.2.1))::(.int .i64 a.1.1.2.2.1)::(.bool a.1.1.2.2.2)::(.int .i64 a.1.2.1.1)::(.int .i64 a.1.2.1.2.1)::(.int .i64 a.1.2.1.2.2.1)::(.int .i64 a.1.2.1.2.2.2)::(.int .i64 a.1.2.2.1)::(.int .i64 a.1.2.2.2.1)::(.vs (rows a.1.2.2.2.2.1))::(.vs (rows a.1.2.2.2.2.2))::a.2.2)),(.int .i64 a.2.1)]
theorem g45_run (a_p:K1) (a_at:Int) (q0:List TV):callFn (X g45_S) g45_tf (g45_E (a_p,a_at,q0)) [] = (impl_Pager_chain a_p a_at).map g45_O:=by
  rw [callFn_eq]
  simp (maxSteps:=2000000) (maxDischargeDepth:=8) -implicitDefEqProofs [g45_tf,impl_Pager_chain,g45_E,bslV_lit (α:=Int) (zs:=[(.int .i64 0)])] <;> (try simp only [map_to_bind,some_elim,g45_O])
def g45_r:Rule:=RlO g45_E (fun a=>impl_Pager_chain a.1 a.2.1) g45_O
theorem g45_ok:RuleOk Tryz.prog 31 g45_r:=ok_rlo (S:=g45_S) (tf:=g45_tf) (SysOk.on ⟨g24_ok,g10_ok,g69_ok,g55_ok,g38_ok,trivial⟩ ⟨g9_ok,g11_ok,trivial⟩) (trE_ok (ks:=[[0,1,5,7,8],[5,2000000,0,0,0,0,0,2,54]]) Tryz.func31 (by kernel_rfl)) fun a=>g45_run a.1 a.2.1 a.2.2
@[simp] theorem g45_app (y0 y1 y2 y3 y4 y5 y6 y7 y8 y9 y10 y11 y12)(q0:List TV):g45_r [(.vp ((.vs (rows y0))::(.vs (rows y1))::(.int .i64 y2)::(.bool y3)::(.int .i64 y4)::(.int .i64 y5)::(.int .i64 y6)::(.int .i64 y7)::(.int .i64 y8)::(.int .i64 y9)::(.vs (rows y10))::(.vs (rows y11))::q0)),(.int .i64 y12)] = (impl_Pager_chain (((y0,y1,y2,y3),(y4,y5,y6,y7),y8,y9,y10,y11)) y12).map g45_O :=
  RlO_app (enc:=g45_E) (by intro a b h; simp [g45_E,Prod.ext_iff] at h ⊢; simp [h]) (((y0,y1,y2,y3),(y4,y5,y6,y7),y8,y9,y10,y11),y12,q0)
end
end Go.Proofs.TM
