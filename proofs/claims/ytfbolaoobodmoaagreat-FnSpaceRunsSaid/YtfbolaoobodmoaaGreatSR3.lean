/- Functions of the program, as functions of their data: written by program. -/
import Derived.Test.YtfbolaoobodmoaaGreatSR2
namespace Go.Proofs.TM
open Go Go.Proofs
set_option linter.unusedVariables false
set_option linter.unusedSimpArgs false
set_option maxHeartbeats 1000000
attribute [-simp] Option.map_bind strV_some
attribute [simp] guardOn_bool sA_bslice Function.comp_def
noncomputable section
/-! impl.AreaBlock -/
def g80_tf:TFn:=⟨(sq [bx 1 0,mk 2 (ki 0)] [1] (.seq (sq [ln 3 4 1,ca 4 79 [.t 3],nt 5 4] [1,5] (.cond (.t 5) (.seq (.ops [mk 2 (ki 0)]) (.keep (kp [(2,0)] [] 0) .ret)) .skip)) (.trim [1] (.seq (.ops [fa 6 1 1,ld 7 6,bn 8 .add (ki 2) (.t 7),mo 2 8]) (.keep (kp [(2,0)] [] 0) .ret))))),[.t 2]⟩
abbrev g80_S:=Sys.on [(79,g63_r)] []
def impl_AreaBlock (a_s:Int×Int×Int×Int):Option (Int):=(impl_ValidSuper a_s).bind fun r1=>if ¬(r1=true) then some 0 else some ((IntKind.i64.wrap (2+a_s.2.1)))
@[simp] def g80_O:Int→TV×List Blk:=fun r=>((.int .i64 r),[])
def g80_E (a:(Int×Int×Int×Int)):List TV:=[(.agg [(.int .i64 a.1),(.int .i64 a.2.1),(.int .i64 a.2.2.1),(.int .i64 a.2.2.2)])]
theorem g80_run (a_s:Int×Int×Int×Int) :callFn (X g80_S) g80_tf (g80_E a_s) []=(impl_AreaBlock a_s).map g80_O:=by
  rw [callFn_eq]
  simp (maxSteps:=2000000) (maxDischargeDepth:=8) -implicitDefEqProofs [g80_tf,impl_AreaBlock,g80_E] <;> (try simp only [map_to_bind,some_elim,g80_O])
def g80_r:Rule:=RlO g80_E (fun a=>impl_AreaBlock a) g80_O
theorem g80_ok:RuleOk Tryz.prog 83 g80_r:=ok_rlo (S:=g80_S) (tf:=g80_tf) (SysOk.on ⟨g63_ok,trivial⟩ trivial) (trE_ok (ks:=[]) Tryz.func83 (by kernel_rfl)) fun a=>g80_run a
@[simp] theorem g80_app (y0 y1 y2 y3):g80_r [(.agg [(.int .i64 y0),(.int .i64 y1),(.int .i64 y2),(.int .i64 y3)])]=(impl_AreaBlock ((y0,y1,y2,y3))).map g80_O :=
  RlO_app (enc:=g80_E) (by intro a b h;simp [g80_E,Prod.ext_iff] at h ⊢;simp [h]) ((y0,y1,y2,y3))
/-! (impl.Super).inArea.1 -/
def g21_tf:TFn:=⟨(sq [bx 2 0,mk 3 (kb false)] [1,2] (.seq (.draw [([],fa 4 0 2),([0],ld 5 4),([],ln 6 4 1),([2],ca 7 83 [.t 6]),([],fa 8 0 1),([4],ld 9 8),([4,5],bn 10 .sub (.t 9) (ki 1))] [ca 11 27 [.t 5,.t 7,.t 10],nt 12 11,mo 3 12]) (.keep (kp [(3,0)] [] 0) .ret))),[.t 3]⟩
abbrev g21_S:=Sys.on [(83,g80_r),(27,g123_r)] []
def impl_Super_inArea_c1 (a_p:Int×Str) (a_p':Int) (a_p'':Int) (a_p''':Int) (a_p'''':Int):Option (Bool):=(impl_AreaBlock ((a_p',a_p'',a_p''',a_p''''))).bind fun r1=>(impl_within a_p.1 r1 ((IntKind.i64.wrap (a_p' - 1)))).bind fun r2=>some ((!r2))
@[simp] def g21_O:Bool→TV×List Blk:=fun r=>((.bool r),[])
def g21_E (a:(Int×Str)×Int×Int×Int×Int):List TV:=[(.agg [(.int .i64 a.1.1),(.str a.1.2)]),(.vp [(.int .i64 a.2.1),(.int .i64 a.2.2.1),(.int .i64 a.2.2.2.1),(.int .i64 a.2.2.2.2)])]
theorem g21_run (a_p:Int×Str) (a_p':Int) (a_p'':Int) (a_p''':Int) (a_p'''':Int) :callFn (X g21_S) g21_tf (g21_E (a_p,a_p',a_p'',a_p''',a_p'''')) []=(impl_Super_inArea_c1 a_p a_p' a_p'' a_p''' a_p'''').map g21_O:=by
  rw [callFn_eq]
  simp (maxSteps:=2000000) (maxDischargeDepth:=8) -implicitDefEqProofs [g21_tf,impl_Super_inArea_c1,g21_E] <;> (try simp only [map_to_bind,some_elim,g21_O])
def g21_r:Rule:=RlO g21_E (fun a=>impl_Super_inArea_c1 a.1 a.2.1 a.2.2.1 a.2.2.2.1 a.2.2.2.2) g21_O
theorem g21_ok:RuleOk Tryz.prog 82 g21_r:=ok_rlo (S:=g21_S) (tf:=g21_tf) (SysOk.on ⟨g80_ok,g123_ok,trivial⟩ trivial) (trE_ok (ks:=[[7]]) Tryz.func82 (by kernel_rfl)) fun a=>g21_run a.1 a.2.1 a.2.2.1 a.2.2.2.1 a.2.2.2.2
@[simp] theorem g21_app (y0 y1 y2 y3 y4 y5):g21_r [(.agg [(.int .i64 y0),(.str y1)]),(.vp [(.int .i64 y2),(.int .i64 y3),(.int .i64 y4),(.int .i64 y5)])]=(impl_Super_inArea_c1 ((y0,y1)) y2 y3 y4 y5).map g21_O :=
  RlO_app (enc:=g21_E) (by intro a b h;simp [g21_E,Prod.ext_iff] at h ⊢;simp [h]) ((y0,y1),y2,y3,y4,y5)
/-! slices.IndexFunc[[]impl.Page,impl.Page] -/
def g2l1_cb:TC:=(sq [bn 9 .lss (.t 8) (.t 7)] [0,1,7,8,9] (.seq (.cond (.t 9) .skip (.keep (kp [] [] 0) (.exit 0))) (.trim [0,1,7,8] (.seq (.block 1 (sq [mo 10 8,mo 5 10] [0,1,5,7,8] (sq [mo 11 1,mo 12 0,mo 13 5,ia 14 2 12 13,ln 15 2 14,oo 16 (.callv (.t 11) [.t 15])] [0,1,5,7,8,16] (.cond (.t 16) (.seq (.ops [mo 17 5,mo 4 17]) (.keep (kp [(4,0)] [] 0) .ret)) .skip)))) (.trim [0,1,7,8] (.after (.ops [bn 18 .add (.t 8) (ki 1),mo 8 18]) (kp [(0,0),(1,0),(7,0),(8,0)] [] 0)))))))
def g2l1_c:TC:=.loop [0,1,7,8] g2l1_cb
def g2_tf:TFn:=⟨(sq [mk 4 (ki 0)] [0,1] (.seq (sq [mo 6 0,le 7 6,mk 8 (ki 0)] [0,1,7,8] (.block 0 (.keep (kp [(0,0),(1,0),(7,0),(8,0)] [] 0) g2l1_c))) (.trim [] (.seq (.ops [mk 4 (ki (-1))]) (.keep (kp [(4,0)] [] 0) .ret))))),[.t 4]⟩
abbrev g2_S:=Sys.on [(82,g21_r)] []
@[reducible,simp] def g2l1_F:((Unit) ⊕ (Int))→Out:=(Sum.elim (fun t=>(.ext 0,[],[])) (fun t=>(.ret,[(4,(.int .i64 t))],[])))
def slices_IndexFunc_impl_Page_impl_Page__Super_inArea_c1_l1_b (v1:List (Int×Str)) (v2:Int) (v3:Int) (v4:Int) (v5:Int) (v6:Int) (v7:Int):Option ((Int) ⊕ ((Unit) ⊕ (Int))):=if v7 < v6 then if 0≤v7 then (v1[(v7).toNat]?).bind fun x8=>(impl_Super_inArea_c1 x8 v2 v3 v4 v5).bind fun r9=>if r9=true then some (.inr (.inr v7)) else some (.inl ((IntKind.i64.wrap (v7+1)))) else none else some (.inr (.inl ()))
theorem g2l1_b_eq  (v1:List (Int×Str)) (v2:Int) (v3:Int) (v4:Int) (v5:Int) (v6:Int) (v7:Int):X g2_S g2l1_cb (keepEnv [0,1,7,8] [(0,(.vs (rows v1))),(1,(.fn 82 [] [(.vp [(.int .i64 v2),(.int .i64 v3),(.int .i64 v4),(.int .i64 v5)])])),(7,(.int .i64 v6)),(8,(.int .i64 v7))]) []=(slices_IndexFunc_impl_Page_impl_Page__Super_inArea_c1_l1_b v1 v2 v3 v4 v5 v6 v7).map (Sum.elim (fun s=>(TX.nrm,[(0,(.vs (rows v1))),(1,(.fn 82 [] [(.vp [(.int .i64 v2),(.int .i64 v3),(.int .i64 v4),(.int .i64 v5)])])),(7,(.int .i64 v6)),(8,(.int .i64 s))],[])) g2l1_F):=by
  simp (maxSteps:=2000000) (maxDischargeDepth:=8) -implicitDefEqProofs [g2l1_cb,slices_IndexFunc_impl_Page_impl_Page__Super_inArea_c1_l1_b] <;> (try simp only [map_to_bind,some_elim,g2l1_F])
def slices_IndexFunc_impl_Page_impl_Page__Super_inArea_c1_l1 (v1:List (Int×Str)) (v2:Int) (v3:Int) (v4:Int) (v5:Int) (v6:Int) (s:Int):Option ((Unit) ⊕ (Int)):=loopO (fun s=>slices_IndexFunc_impl_Page_impl_Page__Super_inArea_c1_l1_b v1 v2 v3 v4 v5 v6 s) s
@[simp] theorem g2l1_eq (y0 y1 y2 y3 y4 y5 y6):X g2_S g2l1_c [(0,(.vs (rows y0))),(1,(.fn 82 [] [(.vp [(.int .i64 y1),(.int .i64 y2),(.int .i64 y3),(.int .i64 y4)])])),(7,(.int .i64 y5)),(8,(.int .i64 y6))] []=(slices_IndexFunc_impl_Page_impl_Page__Super_inArea_c1_l1 y0 y1 y2 y3 y4 y5 y6).map g2l1_F:=by
  exact loop_X _ _ _ _ (by intro r;first | (simp;done) | (rcases r with r | r <;> simp;done) | (rcases r with r | r | r <;> simp;done) | (rcases r with r | r | r | r <;> simp)) (fun s=>g2l1_b_eq  y0 y1 y2 y3 y4 y5 s) y6
def slices_IndexFunc_impl_Page_impl_Page__Super_inArea_c1 (a_s:List (Int×Str)) (a_f:Int) (a_f':Int) (a_f'':Int) (a_f''':Int):Option (Int):=(slices_IndexFunc_impl_Page_impl_Page__Super_inArea_c1_l1 a_s a_f a_f' a_f'' a_f''' ((a_s.length:Int)) 0).bind fun r10=>Sum.elim (fun u11=>some ((-1))) (fun u12=>some u12) r10
@[simp] def g2_O:Int→TV×List Blk:=fun r=>((.int .i64 r),[])
def g2_E (a:(List (Int×Str))×Int×Int×Int×Int):List TV:=[(.vs (rows a.1)),(.fn 82 [] [(.vp [(.int .i64 a.2.1),(.int .i64 a.2.2.1),(.int .i64 a.2.2.2.1),(.int .i64 a.2.2.2.2)])])]
theorem g2_run (a_s:List (Int×Str)) (a_f:Int) (a_f':Int) (a_f'':Int) (a_f''':Int) :callFn (X g2_S) g2_tf (g2_E (a_s,a_f,a_f',a_f'',a_f''')) []=(slices_IndexFunc_impl_Page_impl_Page__Super_inArea_c1 a_s a_f a_f' a_f'' a_f''').map g2_O:=by
  rw [callFn_eq]
  simp (maxSteps:=2000000) (maxDischargeDepth:=8) -implicitDefEqProofs [g2_tf,slices_IndexFunc_impl_Page_impl_Page__Super_inArea_c1,g2_E] <;> (try simp only [map_to_bind,some_elim,g2_O])
def g2_r:Rule:=RlO g2_E (fun a=>slices_IndexFunc_impl_Page_impl_Page__Super_inArea_c1 a.1 a.2.1 a.2.2.1 a.2.2.2.1 a.2.2.2.2) g2_O
theorem g2_ok:RuleOk Tryz.prog 113 g2_r:=ok_rlo (S:=g2_S) (tf:=g2_tf) (SysOk.on ⟨g21_ok,trivial⟩ trivial) (trE_ok (ks:=[[0,1,7,8]]) Tryz.func113 (by kernel_rfl)) fun a=>g2_run a.1 a.2.1 a.2.2.1 a.2.2.2.1 a.2.2.2.2
@[simp] theorem g2_app (y0 y1 y2 y3 y4):g2_r [(.vs (rows y0)),(.fn 82 [] [(.vp [(.int .i64 y1),(.int .i64 y2),(.int .i64 y3),(.int .i64 y4)])])]=(slices_IndexFunc_impl_Page_impl_Page__Super_inArea_c1 y0 y1 y2 y3 y4).map g2_O :=
  RlO_app (enc:=g2_E) (by intro a b h;simp [g2_E,Prod.ext_iff] at h ⊢;simp [h]) (y0,y1,y2,y3,y4)
/-! slices.ContainsFunc[[]impl.Page,impl.Page] -/
def g1_tf:TFn:=⟨(sq [mk 4 (kb false)] [0,1] (.seq (.ops [mo 5 0,mo 6 1,ca 7 113 [.t 5,.t 6],bn 8 .geq (.t 7) (ki 0),mo 4 8]) (.keep (kp [(4,0)] [] 0) .ret))),[.t 4]⟩
abbrev g1_S:=Sys.on [(113,g2_r)] []
def slices_ContainsFunc_impl_Page_impl_Page__Super_inArea_c1 (a_s:List (Int×Str)) (a_f:Int) (a_f':Int) (a_f'':Int) (a_f''':Int):Option (Bool):=(slices_IndexFunc_impl_Page_impl_Page__Super_inArea_c1 a_s a_f a_f' a_f'' a_f''').bind fun r1=>some ((decide (r1 ≥ 0)))
@[simp] def g1_O:Bool→TV×List Blk:=fun r=>((.bool r),[])
def g1_E (a:(List (Int×Str))×Int×Int×Int×Int):List TV:=[(.vs (rows a.1)),(.fn 82 [] [(.vp [(.int .i64 a.2.1),(.int .i64 a.2.2.1),(.int .i64 a.2.2.2.1),(.int .i64 a.2.2.2.2)])])]
theorem g1_run (a_s:List (Int×Str)) (a_f:Int) (a_f':Int) (a_f'':Int) (a_f''':Int) :callFn (X g1_S) g1_tf (g1_E (a_s,a_f,a_f',a_f'',a_f''')) []=(slices_ContainsFunc_impl_Page_impl_Page__Super_inArea_c1 a_s a_f a_f' a_f'' a_f''').map g1_O:=by
  rw [callFn_eq]
  simp (maxSteps:=2000000) (maxDischargeDepth:=8) -implicitDefEqProofs [g1_tf,slices_ContainsFunc_impl_Page_impl_Page__Super_inArea_c1,g1_E] <;> (try simp only [map_to_bind,some_elim,g1_O])
def g1_r:Rule:=RlO g1_E (fun a=>slices_ContainsFunc_impl_Page_impl_Page__Super_inArea_c1 a.1 a.2.1 a.2.2.1 a.2.2.2.1 a.2.2.2.2) g1_O
theorem g1_ok:RuleOk Tryz.prog 81 g1_r:=ok_rlo (S:=g1_S) (tf:=g1_tf) (SysOk.on ⟨g2_ok,trivial⟩ trivial) (trE_ok (ks:=[]) Tryz.func81 (by kernel_rfl)) fun a=>g1_run a.1 a.2.1 a.2.2.1 a.2.2.2.1 a.2.2.2.2
@[simp] theorem g1_app (y0 y1 y2 y3 y4):g1_r [(.vs (rows y0)),(.fn 82 [] [(.vp [(.int .i64 y1),(.int .i64 y2),(.int .i64 y3),(.int .i64 y4)])])]=(slices_ContainsFunc_impl_Page_impl_Page__Super_inArea_c1 y0 y1 y2 y3 y4).map g1_O :=
  RlO_app (enc:=g1_E) (by intro a b h;simp [g1_E,Prod.ext_iff] at h ⊢;simp [h]) (y0,y1,y2,y3,y4)
/-! (impl.Super).inArea -/
def g45_tf:TFn:=⟨(sq [bx 2 0,mk 4 (kb false)] [1,2] (.seq (.ops [mo 5 1,oo 6 (.mkfn 82 [] [.t 2]),ca 7 81 [.t 5,.t 6],nt 8 7,mo 4 8]) (.keep (kp [(4,0)] [] 0) .ret))),[.t 4]⟩
abbrev g45_S:=Sys.on [(81,g1_r)] []
def impl_Super_inArea (a_s:Int×Int×Int×Int) (a_list:List (Int×Str)):Option (Bool):=(slices_ContainsFunc_impl_Page_impl_Page__Super_inArea_c1 a_list a_s.1 a_s.2.1 a_s.2.2.1 a_s.2.2.2).bind fun r1=>some ((!r1))
@[simp] def g45_O:Bool→TV×List Blk:=fun r=>((.bool r),[])
def g45_E (a:(Int×Int×Int×Int)×(List (Int×Str))):List TV:=[(.agg [(.int .i64 a.1.1),(.int .i64 a.1.2.1),(.int .i64 a.1.2.2.1),(.int .i64 a.1.2.2.2)]),(.vs (rows a.2))]
theorem g45_run (a_s:Int×Int×Int×Int) (a_list:List (Int×Str)) :callFn (X g45_S) g45_tf (g45_E (a_s,a_list)) []=(impl_Super_inArea a_s a_list).map g45_O:=by
  rw [callFn_eq]
  simp (maxSteps:=2000000) (maxDischargeDepth:=8) -implicitDefEqProofs [g45_tf,impl_Super_inArea,g45_E] <;> (try simp only [map_to_bind,some_elim,g45_O])
def g45_r:Rule:=RlO g45_E (fun a=>impl_Super_inArea a.1 a.2) g45_O
theorem g45_ok:RuleOk Tryz.prog 54 g45_r:=ok_rlo (S:=g45_S) (tf:=g45_tf) (SysOk.on ⟨g1_ok,trivial⟩ trivial) (trE_ok (ks:=[]) Tryz.func54 (by kernel_rfl)) fun a=>g45_run a.1 a.2
@[simp] theorem g45_app (y0 y1 y2 y3 y4):g45_r [(.agg [(.int .i64 y0),(.int .i64 y1),(.int .i64 y2),(.int .i64 y3)]),(.vs (rows y4))]=(impl_Super_inArea ((y0,y1,y2,y3)) y4).map g45_O :=
  RlO_app (enc:=g45_E) (by intro a b h;simp [g45_E,Prod.ext_iff] at h ⊢;simp [h]) ((y0,y1,y2,y3),y4)
/-! impl.tableBlocks -/
def g54_tf:TFn:=⟨(sq [mk 2 (ki 0)] [0] (.seq (.ops [mo 3 0,bn 4 .mul (ki 2) (.t 3),bn 5 .add (.t 4) (ki 64),bn 6 .sub (.t 5) (ki 1),bn 7 .quo (.t 6) (ki 64),mo 2 7]) (.keep (kp [(2,0)] [] 0) .ret))),[.t 2]⟩
abbrev g54_S:=Sys.on [] []
def impl_tableBlocks (a_pages:Int):Option (Int):=some ((IntKind.i64.wrap (Int.tdiv ((IntKind.i64.wrap ((IntKind.i64.wrap ((IntKind.i64.wrap (2 * a_pages))+64)) - 1))) 64)))
@[simp] def g54_O:Int→TV×List Blk:=fun r=>((.int .i64 r),[])
def g54_E (a:Int):List TV:=[(.int .i64 a)]
theorem g54_run (a_pages:Int) :callFn (X g54_S) g54_tf (g54_E a_pages) []=(impl_tableBlocks a_pages).map g54_O:=by
  rw [callFn_eq]
  simp (maxSteps:=2000000) (maxDischargeDepth:=8) -implicitDefEqProofs [g54_tf,impl_tableBlocks,g54_E] <;> (try simp only [map_to_bind,some_elim,g54_O])
def g54_r:Rule:=RlO g54_E (fun a=>impl_tableBlocks a) g54_O
theorem g54_ok:RuleOk Tryz.prog 114 g54_r:=ok_rlo (S:=g54_S) (tf:=g54_tf) (SysOk.on trivial trivial) (trE_ok (ks:=[]) Tryz.func114 (by kernel_rfl)) fun a=>g54_run a
@[simp] theorem g54_app (y0):g54_r [(.int .i64 y0)]=(impl_tableBlocks y0).map g54_O :=
  RlO_app (enc:=g54_E) (by intro a b h;simp [g54_E,Prod.ext_iff] at h ⊢;simp [h]) y0
/-! impl.RecordBlocks -/
def g46_tf:TFn:=⟨(sq [mk 2 (ki 0)] [0] (.seq (sq [mo 3 0,ca 4 27 [.t 3,ki 1,ki 60],nt 5 4] [0,5] (.cond (.t 5) (.seq (.ops [mk 2 (ki 0)]) (.keep (kp [(2,0)] [] 0) .ret)) .skip)) (.trim [0] (.seq (.ops [mo 6 0,ca 7 114 [.t 6],bn 8 .add (ki 1) (.t 7),mo 9 0,bn 10 .add (.t 8) (.t 9),mo 2 10]) (.keep (kp [(2,0)] [] 0) .ret))))),[.t 2]⟩
abbrev g46_S:=Sys.on [(27,g123_r),(114,g54_r)] []
def impl_RecordBlocks (a_pages:Int):Option (Int):=(impl_within a_pages 1 60).bind fun r1=>if ¬(r1=true) then some 0 else (impl_tableBlocks a_pages).bind fun r2=>some ((IntKind.i64.wrap ((IntKind.i64.wrap (1+r2))+a_pages)))
@[simp] def g46_O:Int→TV×List Blk:=fun r=>((.int .i64 r),[])
def g46_E (a:Int):List TV:=[(.int .i64 a)]
theorem g46_run (a_pages:Int) :callFn (X g46_S) g46_tf (g46_E a_pages) []=(impl_RecordBlocks a_pages).map g46_O:=by
  rw [callFn_eq]
  simp (maxSteps:=2000000) (maxDischargeDepth:=8) -implicitDefEqProofs [g46_tf,impl_RecordBlocks,g46_E] <;> (try simp only [map_to_bind,some_elim,g46_O])
def g46_r:Rule:=RlO g46_E (fun a=>impl_RecordBlocks a) g46_O
theorem g46_ok:RuleOk Tryz.prog 84 g46_r:=ok_rlo (S:=g46_S) (tf:=g46_tf) (SysOk.on ⟨g123_ok,g54_ok,trivial⟩ trivial) (trE_ok (ks:=[]) Tryz.func84 (by kernel_rfl)) fun a=>g46_run a
@[simp] theorem g46_app (y0):g46_r [(.int .i64 y0)]=(impl_RecordBlocks y0).map g46_O :=
  RlO_app (enc:=g46_E) (by intro a b h;simp [g46_E,Prod.ext_iff] at h ⊢;simp [h]) y0
/-! (impl.Super).fits -/
def g65_tf:TFn:=⟨(sq [bx 2 0,mk 4 (kb false)] [1,2] (.seq (.after (.draw [([],mo 5 1),([0],bn 6 .leq (.t 5) (ki 60)),([0,1],mo 7 6),([0,1,2],⟨(some 8),(some (7,true)),(.mv (.t 1))⟩),([0,1,2,3],⟨(some 9),(some (7,true)),(.call 84 [.t 8])⟩),([0,1,2],⟨(some 10),(some (7,true)),(.faddr 1 (.t 2))⟩),([0,1,2,5],⟨(some 11),(some (7,true)),(.load none (.t 10))⟩)] [⟨(some 12),(some (7,true)),(.bin .num .leq (.t 9) (.t 11))⟩,pk 13 (.t 7) (.t 12) (kb false),mo 4 13]) (kp [(4,0)] [] 0)) (.keep (kp [(4,0)] [] 0) .ret))),[.t 4]⟩
abbrev g65_S:=Sys.on [(84,g46_r)] []
def impl_Super_fits (a_s:Int×Int×Int×Int) (a_pages:Int):Option (Bool):=if a_pages≤60 then (impl_RecordBlocks a_pages).bind fun r1=>some ((decide (r1≤a_s.2.1))) else some false
@[simp] def g65_O:Bool→TV×List Blk:=fun r=>((.bool r),[])
def g65_E (a:(Int×Int×Int×Int)×Int):List TV:=[(.agg [(.int .i64 a.1.1),(.int .i64 a.1.2.1),(.int .i64 a.1.2.2.1),(.int .i64 a.1.2.2.2)]),(.int .i64 a.2)]
theorem g65_run (a_s:Int×Int×Int×Int) (a_pages:Int) :callFn (X g65_S) g65_tf (g65_E (a_s,a_pages)) []=(impl_Super_fits a_s a_pages).map g65_O:=by
  rw [callFn_eq]
  simp (maxSteps:=2000000) (maxDischargeDepth:=8) -implicitDefEqProofs [g65_tf,impl_Super_fits,g65_E] <;> (try simp only [map_to_bind,some_elim,g65_O])
def g65_r:Rule:=RlO g65_E (fun a=>impl_Super_fits a.1 a.2) g65_O
theorem g65_ok:RuleOk Tryz.prog 55 g65_r:=ok_rlo (S:=g65_S) (tf:=g65_tf) (SysOk.on ⟨g46_ok,trivial⟩ trivial) (trE_ok (ks:=[[7]]) Tryz.func55 (by kernel_rfl)) fun a=>g65_run a.1 a.2
@[simp] theorem g65_app (y0 y1 y2 y3 y4):g65_r [(.agg [(.int .i64 y0),(.int .i64 y1),(.int .i64 y2),(.int .i64 y3)]),(.int .i64 y4)]=(impl_Super_fits ((y0,y1,y2,y3)) y4).map g65_O :=
  RlO_app (enc:=g65_E) (by intro a b h;simp [g65_E,Prod.ext_iff] at h ⊢;simp [h]) ((y0,y1,y2,y3),y4)
/-! impl.ValidPager -/
def g66p1_c:TC:=(.seq (.after (.ops [fa 40 10 1,ld 41 40,ca 42 53 [.t 41],mo 43 42,⟨(some 44),(some (43,true)),(.faddr 11 (.t 1))⟩,⟨(some 45),(some (43,true)),(.load none (.t 44))⟩,⟨(some 46),(some (43,true)),(.call 53 [.t 45])⟩,pk 47 (.t 43) (.t 46) (kb false),mo 48 47,⟨(some 49),(some (48,true)),(.faddr 4 (.t 1))⟩,⟨(some 50),(some (48,true)),(.load (some 4) (.t 49))⟩,⟨(some 51),(some (48,true)),(.faddr 10 (.t 1))⟩,⟨(some 52),(some (48,true)),(.load none (.t 51))⟩,⟨(some 53),(some (48,true)),(.call 54 [.t 50,.t 52])⟩,pk 54 (.t 48) (.t 53) (kb false),mo 55 54,⟨(some 56),(some (55,true)),(.faddr 4 (.t 1))⟩,⟨(some 57),(some (55,true)),(.load (some 4) (.t 56))⟩,⟨(some 58),(some (55,true)),(.faddr 11 (.t 1))⟩,⟨(some 59),(some (55,true)),(.load none (.t 58))⟩,⟨(some 60),(some (55,true)),(.call 54 [.t 57,.t 59])⟩,pk 61 (.t 55) (.t 60) (kb false),mo 62 61,⟨(some 63),(some (62,true)),(.faddr 4 (.t 1))⟩,⟨(some 64),(some (62,true)),(.load (some 4) (.t 63))⟩,⟨(some 65),(some (62,true)),(.faddr 11 (.t 1))⟩,⟨(some 66),(some (62,true)),(.load none (.t 65))⟩,⟨(some 67),(some (62,true)),(.len false (.t 66))⟩,⟨(some 68),(some (62,true)),(.call 55 [.t 64,.t 67])⟩,pk 69 (.t 62) (.t 68) (kb false),mo 2 69]) (kp [(2,0)] [] 0)) (.keep (kp [(2,0)] [] 0) .ret))
def g66_tf:TFn:=⟨(sq [bx 1 0,mk 2 (kb false)] [1] (.seq (sq [fa 3 0 1,ln 4 4 3,fa 5 4 1,ln 6 4 5,ca 7 52 [.t 4,.t 6],nt 8 7,mo 9 8,⟨(some 10),(some (9,false)),(.faddr 0 (.t 1))⟩,⟨(some 11),(some (9,false)),(.faddr 1 (.t 10))⟩,⟨(some 12),(some (9,false)),(.load none (.t 11))⟩,⟨(some 13),(some (9,false)),(.len false (.t 12))⟩,⟨(some 14),(some (9,false)),(.bin .num .gtr (.t 13) (ki 1))⟩,⟨(some 15),(some (9,false)),(.mv (.t 14))⟩,⟨(some 16),(some (15,true)),(.faddr 0 (.t 1))⟩,⟨(some 17),(some (15,true)),(.faddr 3 (.t 16))⟩,⟨(some 18),(some (15,true)),(.load none (.t 17))⟩,⟨(some 19),(some (15,true)),(.un .not (.t 18))⟩,⟨(some 20),(some (9,false)),(.pick (.t 15) (.t 19) (kb false))⟩,pk 21 (.t 9) (kb true) (.t 20),mo 22 21,⟨(some 23),(some (22,false)),(.faddr 8 (.t 1))⟩,⟨(some 24),(some (22,false)),(.load none (.t 23))⟩,⟨(some 25),(some (22,false)),(.faddr 4 (.t 1))⟩,⟨(some 26),(some (22,false)),(.faddr 2 (.t 25))⟩,⟨(some 27),(some (22,false)),(.load none (.t 26))⟩,⟨(some 28),(some (22,false)),(.call 27 [.t 24,.t 27,ki 1000000000000])⟩,⟨(some 29),(some (22,false)),(.un .not (.t 28))⟩,pk 30 (.t 22) (kb true) (.t 29),mo 31 30,⟨(some 32),(some (31,false)),(.faddr 9 (.t 1))⟩,⟨(some 33),(some (31,false)),(.load none (.t 32))⟩,⟨(some 34),(some (31,false)),(.faddr 4 (.t 1))⟩,⟨(some 35),(some (31,false)),(.faddr 1 (.t 34))⟩,⟨(some 36),(some (31,false)),(.load none (.t 35))⟩,⟨(some 37),(some (31,false)),(.call 27 [.t 33,ki 0,.t 36])⟩,⟨(some 38),(some (31,false)),(.un .not (.t 37))⟩,pk 39 (.t 31) (kb true) (.t 38)] [1,39] (.cond (.t 39) (.seq (.ops [mk 2 (kb false)]) (.keep (kp [(2,0)] [] 0) .ret)) (.keep (kp [(1,0)] [(0,0)] 0) .skip))) (.trim [1] g66p1_c))),[.t 2]⟩
abbrev g66_S:=Sys.on [(52,g79_r),(27,g123_r),(53,g64_r),(54,g45_r),(55,g65_r)] []
@[reducible,simp] def g66p1_F:Bool→Out:=(fun t=>(.ret,[(2,(.bool t))],[]))
def impl_ValidPager_p1 (v6:K1):Option (Bool):=(impl_ValidPages v6.2.2.2.2.1).bind fun r7=>if r7=true then (impl_ValidPages v6.2.2.2.2.2).bind fun r8=>if r8=true then (impl_Super_inArea v6.2.1 v6.2.2.2.2.1).bind fun r9=>if r9=true then (impl_Super_inArea v6.2.1 v6.2.2.2.2.2).bind fun r10=>if r10=true then (impl_Super_fits v6.2.1 ((v6.2.2.2.2.2.length:Int))).bind fun r11=>some r11 else some false else some false else some false else some false
@[simp] theorem g66p1_eq (y0 y1 y2 y3 y4 y5 y6 y7 y8 y9 y10 y11):X g66_S g66p1_c [(1,(.ptr 0 0 0))] [(.live 12 [[(.vs (rows y0)),(.vs (rows y1)),(.int .i64 y2),(.bool y3),(.int .i64 y4),(.int .i64 y5),(.int .i64 y6),(.int .i64 y7),(.int .i64 y8),(.int .i64 y9),(.vs (rows y10)),(.vs (rows y11))]])]=(impl_ValidPager_p1 (((y0,y1,y2,y3),(y4,y5,y6,y7),y8,y9,y10,y11))).map g66p1_F:=by
  simp (maxSteps:=2000000) (maxDischargeDepth:=8) -implicitDefEqProofs [g66p1_c,impl_ValidPager_p1] <;> (try simp only [map_to_bind,some_elim,g66p1_F])
def impl_ValidPager (a_p:K1):Option (Bool):=(impl_superFits a_p.1 a_p.2.1).bind fun r1=>if ¬(r1=true) then some false else if (a_p.1.2.1.length:Int) > 1 then if ¬(a_p.1.2.2.2=true) then some false else (impl_within a_p.2.2.1 a_p.2.1.2.2.1 1000000000000).bind fun r2=>if ¬(r2=true) then some false else (impl_within a_p.2.2.2.1 0 a_p.2.1.2.1).bind fun r3=>if ¬(r3=true) then some false else (impl_ValidPager_p1 a_p).bind fun r12=>some r12 else (impl_within a_p.2.2.1 a_p.2.1.2.2.1 1000000000000).bind fun r4=>if ¬(r4=true) then some false else (impl_within a_p.2.2.2.1 0 a_p.2.1.2.1).bind fun r5=>if ¬(r5=true) then some false else (impl_ValidPager_p1 a_p).bind fun r13=>some r13
@[simp] def g66_O:Bool→TV×List Blk:=fun r=>((.bool r),[])
def g66_E (a:K1):List TV:=[(.agg [(.vs (rows a.1.1)),(.vs (rows a.1.2.1)),(.int .i64 a.1.2.2.1),(.bool a.1.2.2.2),(.int .i64 a.2.1.1),(.int .i64 a.2.1.2.1),(.int .i64 a.2.1.2.2.1),(.int .i64 a.2.1.2.2.2),(.int .i64 a.2.2.1),(.int .i64 a.2.2.2.1),(.vs (rows a.2.2.2.2.1)),(.vs (rows a.2.2.2.2.2))])]
theorem g66_run (a_p:K1) :callFn (X g66_S) g66_tf (g66_E a_p) []=(impl_ValidPager a_p).map g66_O:=by
  rw [callFn_eq]
  simp (maxSteps:=2000000) (maxDischargeDepth:=8) -implicitDefEqProofs [g66_tf,impl_ValidPager,g66_E] <;> (try simp only [map_to_bind,some_elim,g66_O])
def g66_r:Rule:=RlO g66_E (fun a=>impl_ValidPager a) g66_O
theorem g66_ok:RuleOk Tryz.prog 24 g66_r:=ok_rlo (S:=g66_S) (tf:=g66_tf) (SysOk.on ⟨g79_ok,g123_ok,g64_ok,g45_ok,g65_ok,trivial⟩ trivial) (trE_ok (ks:=[]) Tryz.func24 (by kernel_rfl)) fun a=>g66_run a
@[simp] theorem g66_app (y0 y1 y2 y3 y4 y5 y6 y7 y8 y9 y10 y11):g66_r [(.agg [(.vs (rows y0)),(.vs (rows y1)),(.int .i64 y2),(.bool y3),(.int .i64 y4),(.int .i64 y5),(.int .i64 y6),(.int .i64 y7),(.int .i64 y8),(.int .i64 y9),(.vs (rows y10)),(.vs (rows y11))])]=(impl_ValidPager (((y0,y1,y2,y3),(y4,y5,y6,y7),y8,y9,y10,y11))).map g66_O :=
  RlO_app (enc:=g66_E) (by intro a b h;simp [g66_E,Prod.ext_iff] at h ⊢;simp [h]) (((y0,y1,y2,y3),(y4,y5,y6,y7),y8,y9,y10,y11))
/-! impl.blocksFor -/
def g81_tf:TFn:=⟨(sq [mk 2 (ki 0)] [0] (.seq (.ops [mo 3 0,bn 4 .add (.t 3) (ki 64),bn 5 .sub (.t 4) (ki 1),bn 6 .quo (.t 5) (ki 64),oo 7 (.mm true (ki 1) (.t 6)),mo 2 7]) (.keep (kp [(2,0)] [] 0) .ret))),[.t 2]⟩
abbrev g81_S:=Sys.on [] []
def impl_blocksFor (a_size:Int):Option (Int):=some ((max 1 ((IntKind.i64.wrap (Int.tdiv ((IntKind.i64.wrap ((IntKind.i64.wrap (a_size+64)) - 1))) 64)))))
@[simp] def g81_O:Int→TV×List Blk:=fun r=>((.int .i64 r),[])
def g81_E (a:Int):List TV:=[(.int .i64 a)]
theorem g81_run (a_size:Int) :callFn (X g81_S) g81_tf (g81_E a_size) []=(impl_blocksFor a_size).map g81_O:=by
  rw [callFn_eq]
  simp (maxSteps:=2000000) (maxDischargeDepth:=8) -implicitDefEqProofs [g81_tf,impl_blocksFor,g81_E] <;> (try simp only [map_to_bind,some_elim,g81_O])
def g81_r:Rule:=RlO g81_E (fun a=>impl_blocksFor a) g81_O
theorem g81_ok:RuleOk Tryz.prog 41 g81_r:=ok_rlo (S:=g81_S) (tf:=g81_tf) (SysOk.on trivial trivial) (trE_ok (ks:=[]) Tryz.func41 (by kernel_rfl)) fun a=>g81_run a
@[simp] theorem g81_app (y0):g81_r [(.int .i64 y0)]=(impl_blocksFor y0).map g81_O :=
  RlO_app (enc:=g81_E) (by intro a b h;simp [g81_E,Prod.ext_iff] at h ⊢;simp [h]) y0
/-! (*impl.Pager).area -/
def g67_tf:TFn:=⟨(sq [mk 2 (ki 0)] [0] (.seq (.ops [mo 3 0,nk 4 3,fa 5 4 4,fa 6 1 5,ld 7 6,bn 8 .add (ki 2) (.t 7),mo 2 8]) (.keep (kp [(2,0)] [] 0) .ret))),[.t 2]⟩
abbrev g67_S:=Sys.on [] []
def impl_Pager_area (a_p:K1):Option (Int):=some ((IntKind.i64.wrap (2+a_p.2.1.2.1)))
@[simp] def g67_O:Int→TV×List Blk:=fun r=>((.int .i64 r),[])
def g67_E (a:K1×List TV):List TV:=[(.vp ((.vs (rows a.1.1.1))::(.vs (rows a.1.1.2.1))::(.int .i64 a.1.1.2.2.1)::(.bool a.1.1.2.2.2)::(.int .i64 a.1.2.1.1)::(.int .i64 a.1.2.1.2.1)::(.int .i64 a.1.2.1.2.2.1)::(.int .i64 a.1.2.1.2.2.2)::(.int .i64 a.1.2.2.1)::(.int .i64 a.1.2.2.2.1)::(.vs (rows a.1.2.2.2.2.1))::(.vs (rows a.1.2.2.2.2.2))::a.2))]
theorem g67_run (a_p:K1) (q0:List TV):callFn (X g67_S) g67_tf (g67_E (a_p,q0)) []=(impl_Pager_area a_p).map g67_O:=by
  rw [callFn_eq]
  simp (maxSteps:=2000000) (maxDischargeDepth:=8) -implicitDefEqProofs [g67_tf,impl_Pager_area,g67_E] <;> (try simp only [map_to_bind,some_elim,g67_O])
def g67_r:Rule:=RlO g67_E (fun a=>impl_Pager_area a.1) g67_O
theorem g67_ok:RuleOk Tryz.prog 56 g67_r:=ok_rlo (S:=g67_S) (tf:=g67_tf) (SysOk.on trivial trivial) (trE_ok (ks:=[]) Tryz.func56 (by kernel_rfl)) fun a=>g67_run a.1 a.2
@[simp] theorem g67_app (y0 y1 y2 y3 y4 y5 y6 y7 y8 y9 y10 y11)(q0:List TV):g67_r [(.vp ((.vs (rows y0))::(.vs (rows y1))::(.int .i64 y2)::(.bool y3)::(.int .i64 y4)::(.int .i64 y5)::(.int .i64 y6)::(.int .i64 y7)::(.int .i64 y8)::(.int .i64 y9)::(.vs (rows y10))::(.vs (rows y11))::q0))]=(impl_Pager_area (((y0,y1,y2,y3),(y4,y5,y6,y7),y8,y9,y10,y11))).map g67_O :=
  RlO_app (enc:=g67_E) (by intro a b h;simp [g67_E,Prod.ext_iff] at h ⊢;simp [h]) (((y0,y1,y2,y3),(y4,y5,y6,y7),y8,y9,y10,y11),q0)
/-! (*impl.Pager).isData -/
def g47_tf:TFn:=⟨(sq [mk 6 (kb false)] [0,1,2] (.seq (.after (.ops [mo 7 1,mo 8 0,ca 9 56 [.t 8],bn 10 .gtr (.t 7) (.t 9),mo 11 10,⟨(some 12),(some (11,true)),(.mv (.t 2))⟩,⟨(some 13),(some (11,true)),(.mv (.t 0))⟩,⟨(some 14),(some (11,true)),(.nilchk (.t 13))⟩,⟨(some 15),(some (11,true)),(.faddr 4 (.t 14))⟩,⟨(some 16),(some (11,true)),(.faddr 0 (.t 15))⟩,⟨(some 17),(some (11,true)),(.load none (.t 16))⟩,⟨(some 18),(some (11,true)),(.bin .num .leq (.t 12) (.t 17))⟩,pk 19 (.t 11) (.t 18) (kb false),mo 20 19,⟨(some 21),(some (20,true)),(.mv (.t 1))⟩,⟨(some 22),(some (20,true)),(.mv (.t 0))⟩,⟨(some 23),(some (20,true)),(.nilchk (.t 22))⟩,⟨(some 24),(some (20,true)),(.faddr 4 (.t 23))⟩,⟨(some 25),(some (20,true)),(.faddr 0 (.t 24))⟩,⟨(some 26),(some (20,true)),(.load none (.t 25))⟩,⟨(some 27),(some (20,true)),(.mv (.t 2))⟩,⟨(some 28),(some (20,true)),(.bin .num .sub (.t 26) (.t 27))⟩,⟨(some 29),(some (20,true)),(.bin .num .leq (.t 21) (.t 28))⟩,pk 30 (.t 20) (.t 29) (kb false),mo 6 30]) (kp [(6,0)] [] 0)) (.keep (kp [(6,0)] [] 0) .ret))),[.t 6]⟩
abbrev g47_S:=Sys.on [(56,g67_r)] []
def impl_Pager_isData (a_p:K1) (a_at:Int) (a_n:Int):Option (Bool):=(impl_Pager_area a_p).bind fun r1=>if a_at > r1 then if a_n≤a_p.2.1.1 then some ((decide (a_at≤(IntKind.i64.wrap (a_p.2.1.1 - a_n))))) else some false else some false
@[simp] def g47_O:Bool→TV×List Blk:=fun r=>((.bool r),[])
def g47_E (a:K1×Int×Int×List TV):List TV:=[(.vp ((.vs (rows a.1.1.1))::(.vs (rows a.1.1.2.1))::(.int .i64 a.1.1.2.2.1)::(.bool a.1.1.2.2.2)::(.int .i64 a.1.2.1.1)::(.int .i64 a.1.2.1.2.1)::(.int .i64 a.1.2.1.2.2.1)::(.int .i64 a.1.2.1.2.2.2)::(.int .i64 a.1.2.2.1)::(.int .i64 a.1.2.2.2.1)::(.vs (rows a.1.2.2.2.2.1))::(.vs (rows a.1.2.2.2.2.2))::a.2.2.2)),(.int .i64 a.2.1),(.int .i64 a.2.2.1)]
theorem g47_run (a_p:K1) (a_at:Int) (a_n:Int) (q0:List TV):callFn (X g47_S) g47_tf (g47_E (a_p,a_at,a_n,q0)) []=(impl_Pager_isData a_p a_at a_n).map g47_O:=by
  rw [callFn_eq]
  simp (maxSteps:=2000000) (maxDischargeDepth:=8) -implicitDefEqProofs [g47_tf,impl_Pager_isData,g47_E] <;> (try simp only [map_to_bind,some_elim,g47_O])
def g47_r:Rule:=RlO g47_E (fun a=>impl_Pager_isData a.1 a.2.1 a.2.2.1) g47_O
theorem g47_ok:RuleOk Tryz.prog 57 g47_r:=ok_rlo (S:=g47_S) (tf:=g47_tf) (SysOk.on ⟨g67_ok,trivial⟩ trivial) (trE_ok (ks:=[]) Tryz.func57 (by kernel_rfl)) fun a=>g47_run a.1 a.2.1 a.2.2.1 a.2.2.2
@[simp] theorem g47_app (y0 y1 y2 y3 y4 y5 y6 y7 y8 y9 y10 y11 y12 y13)(q0:List TV):g47_r [(.vp ((.vs (rows y0))::(.vs (rows y1))::(.int .i64 y2)::(.bool y3)::(.int .i64 y4)::(.int .i64 y5)::(.int .i64 y6)::(.int .i64 y7)::(.int .i64 y8)::(.int .i64 y9)::(.vs (rows y10))::(.vs (rows y11))::q0)),(.int .i64 y12),(.int .i64 y13)]=(impl_Pager_isData (((y0,y1,y2,y3),(y4,y5,y6,y7),y8,y9,y10,y11)) y12 y13).map g47_O :=
  RlO_app (enc:=g47_E) (by intro a b h;simp [g47_E,Prod.ext_iff] at h ⊢;simp [h]) (((y0,y1,y2,y3),(y4,y5,y6,y7),y8,y9,y10,y11),y12,y13,q0)
/-! (*impl.Pager).isRun -/
def g55_tf:TFn:=⟨(sq [mk 6 (kb false)] [0,1,2] (.seq (.after (.ops [mo 7 2,ca 8 27 [.t 7,ki 0,ki 65536],mo 9 8,⟨(some 10),(some (9,true)),(.mv (.t 0))⟩,⟨(some 11),(some (9,true)),(.mv (.t 1))⟩,⟨(some 12),(some (9,true)),(.mv (.t 2))⟩,⟨(some 13),(some (9,true)),(.call 41 [.t 12])⟩,⟨(some 14),(some (9,true)),(.call 57 [.t 10,.t 11,.t 13])⟩,pk 15 (.t 9) (.t 14) (kb false),mo 6 15]) (kp [(6,0)] [] 0)) (.keep (kp [(6,0)] [] 0) .ret))),[.t 6]⟩
abbrev g55_S:=Sys.on [(27,g123_r),(41,g81_r),(57,g47_r)] []
def impl_Pager_isRun (a_p:K1) (a_at:Int) (a_size:Int):Option (Bool):=(impl_within a_size 0 65536).bind fun r1=>if r1=true then (impl_blocksFor a_size).bind fun r2=>(impl_Pager_isData a_p a_at r2).bind fun r3=>some r3 else some false
@[simp] def g55_O:Bool→TV×List Blk:=fun r=>((.bool r),[])
def g55_E (a:K1×Int×Int×List TV):List TV:=[(.vp ((.vs (rows a.1.1.1))::(.vs (rows a.1.1.2.1))::(.int .i64 a.1.1.2.2.1)::(.bool a.1.1.2.2.2)::(.int .i64 a.1.2.1.1)::(.int .i64 a.1.2.1.2.1)::(.int .i64 a.1.2.1.2.2.1)::(.int .i64 a.1.2.1.2.2.2)::(.int .i64 a.1.2.2.1)::(.int .i64 a.1.2.2.2.1)::(.vs (rows a.1.2.2.2.2.1))::(.vs (rows a.1.2.2.2.2.2))::a.2.2.2)),(.int .i64 a.2.1),(.int .i64 a.2.2.1)]
theorem g55_run (a_p:K1) (a_at:Int) (a_size:Int) (q0:List TV):callFn (X g55_S) g55_tf (g55_E (a_p,a_at,a_size,q0)) []=(impl_Pager_isRun a_p a_at a_size).map g55_O:=by
  rw [callFn_eq]
  simp (maxSteps:=2000000) (maxDischargeDepth:=8) -implicitDefEqProofs [g55_tf,impl_Pager_isRun,g55_E] <;> (try simp only [map_to_bind,some_elim,g55_O])
def g55_r:Rule:=RlO g55_E (fun a=>impl_Pager_isRun a.1 a.2.1 a.2.2.1) g55_O
theorem g55_ok:RuleOk Tryz.prog 38 g55_r:=ok_rlo (S:=g55_S) (tf:=g55_tf) (SysOk.on ⟨g123_ok,g81_ok,g47_ok,trivial⟩ trivial) (trE_ok (ks:=[]) Tryz.func38 (by kernel_rfl)) fun a=>g55_run a.1 a.2.1 a.2.2.1 a.2.2.2
@[simp] theorem g55_app (y0 y1 y2 y3 y4 y5 y6 y7 y8 y9 y10 y11 y12 y13)(q0:List TV):g55_r [(.vp ((.vs (rows y0))::(.vs (rows y1))::(.int .i64 y2)::(.bool y3)::(.int .i64 y4)::(.int .i64 y5)::(.int .i64 y6)::(.int .i64 y7)::(.int .i64 y8)::(.int .i64 y9)::(.vs (rows y10))::(.vs (rows y11))::q0)),(.int .i64 y12),(.int .i64 y13)]=(impl_Pager_isRun (((y0,y1,y2,y3),(y4,y5,y6,y7),y8,y9,y10,y11)) y12 y13).map g55_O :=
  RlO_app (enc:=g55_E) (by intro a b h;simp [g55_E,Prod.ext_iff] at h ⊢;simp [h]) (((y0,y1,y2,y3),(y4,y5,y6,y7),y8,y9,y10,y11),y12,y13,q0)
/-! slices.Clone[[]string,string] -/
theorem g12_fn:FnOk Tryz.prog 119 (cloneTF 9 [(.str [])] 1 16):=trF_ok (ks:=[]) Tryz.func119 (by kernel_rfl)
noncomputable def slices_Clone_string_string_ (l:List (Str)):Option (List (Str)):=appL 16 [] l
noncomputable def g12_r:Rule:=RlO (fun (l:List (Str))=>[TV.vs (rows l)]) (fun l=>slices_Clone_string_string_ l) (fun r=>(ow 0 r.length,[ob 1 r]))
theorem g12_ok:RuleOk Tryz.prog 119 g12_r:=clone_ok rfl g12_fn
@[simp] theorem g12_app (y0):g12_r [TV.vs (rows y0)]=(slices_Clone_string_string_ y0).map (fun r=>(ow 0 r.length,[ob 1 r])):=RlO_app (enc:=fun (y0:List (Str))=>[TV.vs (rows y0)]) (g:=fun y0=>slices_Clone_string_string_ y0) (by intro a b h;simpa using h) y0
/-! slices.Clone[[]impl.Put,impl.Put] -/
theorem g9_fn:FnOk Tryz.prog 120 (cloneTF 111 [(.int .i64 0),(.str [])] 2 24):=trF_ok (ks:=[]) Tryz.func120 (by kernel_rfl)
noncomputable def slices_Clone_impl_Put_impl_Put_ (l:List (Int×Str)):Option (List (Int×Str)):=appL 24 [] l
noncomputable def g9_r:Rule:=RlO (fun (l:List (Int×Str))=>[TV.vs (rows l)]) (fun l=>slices_Clone_impl_Put_impl_Put_ l) (fun r=>(ow 0 r.length,[ob 2 r]))
theorem g9_ok:RuleOk Tryz.prog 120 g9_r:=clone_ok rfl g9_fn
@[simp] theorem g9_app (y0):g9_r [TV.vs (rows y0)]=(slices_Clone_impl_Put_impl_Put_ y0).map (fun r=>(ow 0 r.length,[ob 2 r])):=RlO_app (enc:=fun (y0:List (Int×Str))=>[TV.vs (rows y0)]) (g:=fun y0=>slices_Clone_impl_Put_impl_Put_ y0) (by intro a b h;simpa using h) y0
/-! (impl.Disk).clone -/
def g68_tf:TFn:=⟨(sq [bx 1 0,oo 2 (.alloc [.nils,.nils,(.int .i64 0),(.bool false)])] [1,2] (.seq (.draw [([],fa 3 0 1),([0],ld 4 3),([0,1],ca 5 119 [.t 4]),([],fa 6 1 1),([3],ld 7 6),([0,1,2,3,4],ca 8 120 [.t 7]),([],fa 9 2 1),([6],ld 10 9),([],fa 11 3 1),([8],ld 12 11)] [oo 13 (.build [.nils,.nils,(.int .i64 0),(.bool false)] [(0,1,(.t 5)),(1,1,(.t 8)),(2,1,(.t 10)),(3,1,(.t 12))]),⟨none,none,(.store 4 (.t 2) (.t 13))⟩]) (.keep (kp [(2,0)] [(1,2),(2,1),(3,1)] 0) .ret))),[.cell 2 (some 4)]⟩
abbrev g68_S:=Sys.on [(119,g12_r),(120,g9_r)] []
def impl_Disk_clone (a_d:K0):Option (K0):=(slices_Clone_string_string_ a_d.1).bind fun r1=>(slices_Clone_impl_Put_impl_Put_ a_d.2.1).bind fun r2=>some ((r1,r2,a_d.2.2.1,a_d.2.2.2))
@[simp] def g68_O:(K0)→TV×List Blk:=fun r=>((.agg [(ow 1 r.1.length),(ow 2 r.2.1.length),(.int .i64 r.2.2.1),(.bool r.2.2.2)]),[(.live 4 [[(ow 1 r.1.length),(ow 2 r.2.1.length),(.int .i64 r.2.2.1),(.bool r.2.2.2)]]),(ob 1 r.1),(ob 2 r.2.1)])
def g68_E (a:K0):List TV:=[(.agg [(.vs (rows a.1)),(.vs (rows a.2.1)),(.int .i64 a.2.2.1),(.bool a.2.2.2)])]
theorem g68_run (a_d:K0) :callFn (X g68_S) g68_tf (g68_E a_d) []=(impl_Disk_clone a_d).map g68_O:=by
  rw [callFn_eq]
  simp (maxSteps:=2000000) (maxDischargeDepth:=8) -implicitDefEqProofs [g68_tf,impl_Disk_clone,g68_E] <;> (try simp only [map_to_bind,some_elim,g68_O])
def g68_r:Rule:=RlO g68_E (fun a=>impl_Disk_clone a) g68_O
theorem g68_ok:RuleOk Tryz.prog 87 g68_r:=ok_rlo (S:=g68_S) (tf:=g68_tf) (SysOk.on ⟨g12_ok,g9_ok,trivial⟩ trivial) (trE_ok (ks:=[[10]]) Tryz.func87 (by kernel_rfl)) fun a=>g68_run a
@[simp] theorem g68_app (y0 y1 y2 y3):g68_r [(.agg [(.vs (rows y0)),(.vs (rows y1)),(.int .i64 y2),(.bool y3)])]=(impl_Disk_clone ((y0,y1,y2,y3))).map g68_O :=
  RlO_app (enc:=g68_E) (by intro a b h;simp [g68_E,Prod.ext_iff] at h ⊢;simp [h]) ((y0,y1,y2,y3))
/-! slices.Clone[[]impl.Page,impl.Page] -/
theorem g8_fn:FnOk Tryz.prog 88 (cloneTF 83 [(.int .i64 0),(.str [])] 2 24):=trF_ok (ks:=[]) Tryz.func88 (by kernel_rfl)
noncomputable def slices_Clone_impl_Page_impl_Page_ (l:List (Int×Str)):Option (List (Int×Str)):=appL 24 [] l
noncomputable def g8_r:Rule:=RlO (fun (l:List (Int×Str))=>[TV.vs (rows l)]) (fun l=>slices_Clone_impl_Page_impl_Page_ l) (fun r=>(ow 0 r.length,[ob 2 r]))
theorem g8_ok:RuleOk Tryz.prog 88 g8_r:=clone_ok rfl g8_fn
@[simp] theorem g8_app (y0):g8_r [TV.vs (rows y0)]=(slices_Clone_impl_Page_impl_Page_ y0).map (fun r=>(ow 0 r.length,[ob 2 r])):=RlO_app (enc:=fun (y0:List (Int×Str))=>[TV.vs (rows y0)]) (g:=fun y0=>slices_Clone_impl_Page_impl_Page_ y0) (by intro a b h;simpa using h) y0
/-! (impl.Pager).clone -/
def g56_tf:TFn:=⟨(sq [bx 1 0,oo 2 (.alloc [.nils,.nils,(.int .i64 0),(.bool false),(.int .i64 0),(.int .i64 0),(.int .i64 0),(.int .i64 0),(.int .i64 0),(.int .i64 0),.nils,.nils])] [1,2] (sq [fa 3 0 1,ln 4 4 3,ca 5 87 [.t 4],fa 6 0 1,⟨none,none,(.store 4 (.t 6) (.t 5))⟩] [1,2] (sq [fa 7 10 1,ld 8 7,ca 9 88 [.t 8],fa 10 10 1,⟨none,none,(.store 1 (.t 10) (.t 9))⟩] [1,2] (sq [fa 11 11 1,ld 12 11,ca 13 88 [.t 12],fa 14 11 1,⟨none,none,(.store 1 (.t 14) (.t 13))⟩] [1,2] (.seq (.ops [ln 15 12 1,⟨none,none,(.store 12 (.t 2) (.t 15))⟩]) (.keep (kp [(2,0)] [(1,2),(3,1),(4,1),(5,1),(6,1)] 0) .ret)))))),[.cell 2 (some 12)]⟩
abbrev g56_S:=Sys.on [(87,g68_r),(88,g8_r)] []
def impl_Pager_clone (a_p:K1):Option (K1):=(impl_Disk_clone a_p.1).bind fun r1=>(slices_Clone_impl_Page_impl_Page_ a_p.2.2.2.2.1).bind fun r2=>(slices_Clone_impl_Page_impl_Page_ a_p.2.2.2.2.2).bind fun r3=>some ((r1,a_p.2.1,a_p.2.2.1,a_p.2.2.2.1,r2,r3))
@[simp] def g56_O:(K1)→TV×List Blk:=fun r=>((.agg [(ow 1 r.1.1.length),(ow 2 r.1.2.1.length),(.int .i64 r.1.2.2.1),(.bool r.1.2.2.2),(.int .i64 r.2.1.1),(.int .i64 r.2.1.2.1),(.int .i64 r.2.1.2.2.1),(.int .i64 r.2.1.2.2.2),(.int .i64 r.2.2.1),(.int .i64 r.2.2.2.1),(ow 3 r.2.2.2.2.1.length),(ow 4 r.2.2.2.2.2.length)]),[(.live 12 [[(ow 1 r.1.1.length),(ow 2 r.1.2.1.length),(.int .i64 r.1.2.2.1),(.bool r.1.2.2.2),(.int .i64 r.2.1.1),(.int .i64 r.2.1.2.1),(.int .i64 r.2.1.2.2.1),(.int .i64 r.2.1.2.2.2),(.int .i64 r.2.2.1),(.int .i64 r.2.2.2.1),(ow 3 r.2.2.2.2.1.length),(ow 4 r.2.2.2.2.2.length)]]),(ob 1 r.1.1),(ob 2 r.1.2.1),(ob 2 r.2.2.2.2.1),(ob 2 r.2.2.2.2.2)])
def g56_E (a:K1):List TV:=[(.agg [(.vs (rows a.1.1)),(.vs (rows a.1.2.1)),(.int .i64 a.1.2.2.1),(.bool a.1.2.2.2),(.int .i64 a.2.1.1),(.int .i64 a.2.1.2.1),(.int .i64 a.2.1.2.2.1),(.int .i64 a.2.1.2.2.2),(.int .i64 a.2.2.1),(.int .i64 a.2.2.2.1),(.vs (rows a.2.2.2.2.1)),(.vs (rows a.2.2.2.2.2))])]
theorem g56_run (a_p:K1) :callFn (X g56_S) g56_tf (g56_E a_p) []=(impl_Pager_clone a_p).map g56_O:=by
  rw [callFn_eq]
  simp (maxSteps:=2000000) (maxDischargeDepth:=8) -implicitDefEqProofs [g56_tf,impl_Pager_clone,g56_E] <;> (try simp only [map_to_bind,some_elim,g56_O])
def g56_r:Rule:=RlO g56_E (fun a=>impl_Pager_clone a) g56_O
theorem g56_ok:RuleOk Tryz.prog 59 g56_r:=ok_rlo (S:=g56_S) (tf:=g56_tf) (SysOk.on ⟨g68_ok,g8_ok,trivial⟩ trivial) (trE_ok (ks:=[]) Tryz.func59 (by kernel_rfl)) fun a=>g56_run a
@[simp] theorem g56_app (y0 y1 y2 y3 y4 y5 y6 y7 y8 y9 y10 y11):g56_r [(.agg [(.vs (rows y0)),(.vs (rows y1)),(.int .i64 y2),(.bool y3),(.int .i64 y4),(.int .i64 y5),(.int .i64 y6),(.int .i64 y7),(.int .i64 y8),(.int .i64 y9),(.vs (rows y10)),(.vs (rows y11))])]=(impl_Pager_clone (((y0,y1,y2,y3),(y4,y5,y6,y7),y8,y9,y10,y11))).map g56_O :=
  RlO_app (enc:=g56_E) (by intro a b h;simp [g56_E,Prod.ext_iff] at h ⊢;simp [h]) (((y0,y1,y2,y3),(y4,y5,y6,y7),y8,y9,y10,y11))
/-! strings.Repeat -/
noncomputable def strings_Repeat (s:Str) (n:Int):Option Str:=repS s n
noncomputable def strings_Repeat_r:Rule:=repS_r
@[simp] theorem strings_Repeat_app (y0 y1):strings_Repeat_r [.str y0,.int .i64 y1]=(strings_Repeat y0 y1).map (fun r=>(.str r,[])):=repS_app y0 y1
/-! impl.zeros -/
def g128_tf:TFn:=⟨(sq [mk 2 (.c (.str []))] [0] (.seq (.ops [mo 3 0,oo 4 (.call 72 [(.c (.str [0])),.t 3]),mo 2 4]) (.keep (kp [(2,0)] [] 0) .ret))),[.t 2]⟩
abbrev g128_S:=Sys.on [(72,strings_Repeat_r)] []
def impl_zeros (a_n:Int):Option (Str):=(strings_Repeat (([0]:Str)) a_n).bind fun r1=>some r1
@[simp] def g128_O:Str→TV×List Blk:=fun r=>((.str r),[])
def g128_E (a:Int):List TV:=[(.int .i64 a)]
theorem g128_run (a_n:Int) :callFn (X g128_S) g128_tf (g128_E a_n) []=(impl_zeros a_n).map g128_O:=by
  rw [callFn_eq]
  simp (maxSteps:=2000000) (maxDischargeDepth:=8) -implicitDefEqProofs [g128_tf,impl_zeros,g128_E] <;> (try simp only [map_to_bind,some_elim,g128_O])
def g128_r:Rule:=RlO g128_E (fun a=>impl_zeros a) g128_O
theorem g128_ok:RuleOk Tryz.prog 43 g128_r:=ok_rlo (S:=g128_S) (tf:=g128_tf) (SysOk.on ⟨strings_Repeat_ok,trivial⟩ trivial) (trE_ok (ks:=[]) Tryz.func43 (by kernel_rfl)) fun a=>g128_run a
@[simp] theorem g128_app (y0):g128_r [(.int .i64 y0)]=(impl_zeros y0).map g128_O :=
  RlO_app (enc:=g128_E) (by intro a b h;simp [g128_E,Prod.ext_iff] at h ⊢;simp [h]) y0
/-! impl.padded -/
def g124_tf:TFn:=⟨(sq [mk 4 (.c (.str []))] [0,1] (.seq (.ops [mo 5 0,mo 6 1,mo 7 0,oo 8 (.len true (.t 7)),bn 9 .sub (.t 6) (.t 8),ca 10 43 [.t 9],oo 11 (.bin .str .add (.t 5) (.t 10)),mo 4 11]) (.keep (kp [(4,0)] [] 0) .ret))),[.t 4]⟩
abbrev g124_S:=Sys.on [(43,g128_r)] []
def impl_padded (a_s:Str) (a_n:Int):Option (Str):=(impl_zeros ((IntKind.i64.wrap (a_n - ((a_s.length:Int)))))).bind fun r1=>if a_s.length+r1.length≤9223372036854775807 then some ((a_s++r1)) else none
@[simp] def g124_O:Str→TV×List Blk:=fun r=>((.str r),[])
def g124_E (a:Str×Int):List TV:=[(.str a.1),(.int .i64 a.2)]
theorem g124_run (a_s:Str) (a_n:Int) :callFn (X g124_S) g124_tf (g124_E (a_s,a_n)) []=(impl_padded a_s a_n).map g124_O:=by
  rw [callFn_eq]
  simp (maxSteps:=2000000) (maxDischargeDepth:=8) -implicitDefEqProofs [g124_tf,impl_padded,g124_E] <;> (try simp only [map_to_bind,some_elim,g124_O])
def g124_r:Rule:=RlO g124_E (fun a=>impl_padded a.1 a.2) g124_O
theorem g124_ok:RuleOk Tryz.prog 68 g124_r:=ok_rlo (S:=g124_S) (tf:=g124_tf) (SysOk.on ⟨g128_ok,trivial⟩ trivial) (trE_ok (ks:=[]) Tryz.func68 (by kernel_rfl)) fun a=>g124_run a.1 a.2
@[simp] theorem g124_app (y0 y1):g124_r [(.str y0),(.int .i64 y1)]=(impl_padded y0 y1).map g124_O :=
  RlO_app (enc:=g124_E) (by intro a b h;simp [g124_E,Prod.ext_iff] at h ⊢;simp [h]) (y0,y1)
/-! impl.blocksOf -/
def g94l1_cb:TC:=(.seq (sq [mo 4 0,oo 5 (.bin .str .neq (.t 4) (.c (.str [])))] [0,3,5] (.cond (.t 5) .skip (.keep (kp [(3,1)] [(0,1)] 0) (.exit 0)))) (.trim [0,3] (.seq (.block 1 (.ops [mo 8 3,mo 9 0,oo 10 (.sliceS (.t 9) none (some (ki 64))),oo 11 (.bslice [(.str [])] 1 [(0,(.t 10))]),oo 12 (.append 9 1 16 (.t 8) (.t 11)),mo 3 12])) (.trim [0,3] (.after (.ops [mo 6 0,oo 7 (.sliceS (.t 6) (some (ki 64)) none),mo 0 7]) (kp [(0,0),(3,1)] [(2,1)] 0))))))
def g94l1_c:TC:=.loop [0,3] g94l1_cb
def g94_tf:TFn:=⟨(sq [mk 2 (.c .nils)] [0] (sq [mk 3 (.c .nils)] [0,3] (.seq (.block 0 (.keep (kp [(0,0),(3,1)] [(1000,1)] 0) g94l1_c)) (.trim [3] (.seq (.ops [mo 13 3,mo 2 13]) (.keep (kp [(2,1)] [(0,1)] 0) .ret)))))),[.t 2]⟩
abbrev g94_S:=Sys.on [] []
@[reducible,simp] def g94l1_F:(List Str)→Out:=(fun t=>(.ext 0,[(3,(ow 0 t.length))],[(ob 1 t)]))
def impl_blocksOf_l1_b (v1:Str) (v2:List Str):Option ((Str×List Str) ⊕ (List Str)):=if ¬(v1=([]:Str)) then (subL v1 none (some 64)).bind fun s3=>(appL 16 v2 ((lit [s3]:List Str))).bind fun l4=>(subL v1 (some 64) none).bind fun s5=>some (.inl (s5,l4)) else some (.inr v2)
theorem g94l1_b_eq  (v1:Str) (v2:List Str):X g94_S g94l1_cb (keepEnv [0,3] [(0,(.str v1)),(3,(ow 0 v2.length))]) [(ob 1 v2)]=(impl_blocksOf_l1_b v1 v2).map (Sum.elim (fun s=>(TX.nrm,[(0,(.str s.1)),(3,(ow 0 s.2.length))],[(ob 1 s.2)])) g94l1_F):=by
  simp (maxSteps:=2000000) (maxDischargeDepth:=8) -implicitDefEqProofs [g94l1_cb,impl_blocksOf_l1_b,bslV_lit (α:=Str) (zs:=[(.str [])])] <;> (try simp only [map_to_bind,some_elim,g94l1_F])
def impl_blocksOf_l1  (s:Str×List Str):Option (List Str):=loopO (fun s=>impl_blocksOf_l1_b  s.1 s.2) s
@[simp] theorem g94l1_eq (y0)(y1:List Str){n1:Nat}(h1:n1=y1.length):X g94_S g94l1_c [(0,(.str y0)),(3,(ow 0 n1))] [(ob 1 y1)]=(impl_blocksOf_l1  (y0,y1)).map g94l1_F:=by
  subst h1
  exact loop_X _ _ _ _ (by intro r;first | (simp;done) | (rcases r with r | r <;> simp;done) | (rcases r with r | r | r <;> simp;done) | (rcases r with r | r | r | r <;> simp)) (fun s=>g94l1_b_eq   s.1 s.2) (y0,y1)
@[simp] theorem g94l1_eq_1 (y0):X g94_S g94l1_c [(0,(.str y0)),(3,.es)] [.dead]=(impl_blocksOf_l1  (y0,([]:List Str))).map g94l1_F :=
  g94l1_eq  y0 ([]:List Str) rfl
def impl_blocksOf (a_s:Str):Option (List Str):=(impl_blocksOf_l1 ((a_s,([]:List Str)))).bind fun r6=>some r6
@[simp] def g94_O:List Str→TV×List Blk:=fun r=>((ow 0 r.length),[(ob 1 r)])
def g94_E (a:Str):List TV:=[(.str a)]
theorem g94_run (a_s:Str) :callFn (X g94_S) g94_tf (g94_E a_s) []=(impl_blocksOf a_s).map g94_O:=by
  rw [callFn_eq]
  simp (maxSteps:=2000000) (maxDischargeDepth:=8) -implicitDefEqProofs [g94_tf,impl_blocksOf,g94_E,bslV_lit (α:=Str) (zs:=[(.str [])])] <;> (try simp only [map_to_bind,some_elim,g94_O])
def g94_r:Rule:=RlO g94_E (fun a=>impl_blocksOf a) g94_O
theorem g94_ok:RuleOk Tryz.prog 67 g94_r:=ok_rlo (S:=g94_S) (tf:=g94_tf) (SysOk.on trivial trivial) (trE_ok (ks:=[[0,3]]) Tryz.func67 (by kernel_rfl)) fun a=>g94_run a
@[simp] theorem g94_app (y0):g94_r [(.str y0)]=(impl_blocksOf y0).map g94_O :=
  RlO_app (enc:=g94_E) (by intro a b h;simp [g94_E,Prod.ext_iff] at h ⊢;simp [h]) y0
/-! cmp.isNaN[int64] -/
def g69_tf:TFn:=⟨(sq [mk 2 (kb false)] [0] (.seq (.ops [mo 3 0,mo 4 0,bn 5 .neq (.t 3) (.t 4),mo 2 5]) (.keep (kp [(2,0)] [] 0) .ret))),[.t 2]⟩
abbrev g69_S:=Sys.on [] []
def cmp_isNaN_int64 (a_x:Int):Option (Bool):=some ((!decide (a_x=a_x)))
@[simp] def g69_O:Bool→TV×List Blk:=fun r=>((.bool r),[])
def g69_E (a:Int):List TV:=[(.int .i64 a)]
theorem g69_run (a_x:Int) :callFn (X g69_S) g69_tf (g69_E a_x) []=(cmp_isNaN_int64 a_x).map g69_O:=by
  rw [callFn_eq]
  simp (maxSteps:=2000000) (maxDischargeDepth:=8) -implicitDefEqProofs [g69_tf,cmp_isNaN_int64,g69_E] <;> (try simp only [map_to_bind,some_elim,g69_O])
def g69_r:Rule:=RlO g69_E (fun a=>cmp_isNaN_int64 a) g69_O
theorem g69_ok:RuleOk Tryz.prog 144 g69_r:=ok_rlo (S:=g69_S) (tf:=g69_tf) (SysOk.on trivial trivial) (trE_ok (ks:=[]) Tryz.func144 (by kernel_rfl)) fun a=>g69_run a
@[simp] theorem g69_app (y0):g69_r [(.int .i64 y0)]=(cmp_isNaN_int64 y0).map g69_O :=
  RlO_app (enc:=g69_E) (by intro a b h;simp [g69_E,Prod.ext_iff] at h ⊢;simp [h]) y0
/-! cmp.Compare[int64] -/
def g48_tf:TFn:=⟨(sq [mk 4 (ki 0)] [0,1] (sq [mo 7 0,ca 8 144 [.t 7],mo 5 8] [0,1,5] (sq [mo 9 1,ca 10 144 [.t 9],mo 6 10] [0,1,5,6] (.seq (sq [mo 11 5] [0,1,6,11] (.cond (.t 11) (.seq (sq [mo 12 6] [12] (.cond (.t 12) (.seq (.ops [mk 4 (ki 0)]) (.keep (kp [(4,0)] [] 0) .ret)) .skip)) (.trim [] (.seq (.ops [mk 4 (ki (-1))]) (.keep (kp [(4,0)] [] 0) .ret)))) .skip)) (.trim [0,1,6] (.seq (sq [mo 13 6] [0,1,13] (.cond (.t 13) (.seq (.ops [mk 4 (ki 1)]) (.keep (kp [(4,0)] [] 0) .ret)) .skip)) (.trim [0,1] (.seq (sq [mo 14 0,mo 15 1,bn 16 .lss (.t 14) (.t 15)] [0,1,16] (.cond (.t 16) (.seq (.ops [mk 4 (ki (-1))]) (.keep (kp [(4,0)] [] 0) .ret)) .skip)) (.trim [0,1] (.seq (sq [mo 17 0,mo 18 1,bn 19 .gtr (.t 17) (.t 18)] [19] (.cond (.t 19) (.seq (.ops [mk 4 (ki 1)]) (.keep (kp [(4,0)] [] 0) .ret)) .skip)) (.trim [] (.seq (.ops [mk 4 (ki 0)]) (.keep (kp [(4,0)] [] 0) .ret))))))))))))),[.t 4]⟩
abbrev g48_S:=Sys.on [(144,g69_r)] []
def cmp_Compare_int64 (a_x:Int) (a_y:Int):Option (Int):=(cmp_isNaN_int64 a_x).bind fun r1=>(cmp_isNaN_int64 a_y).bind fun r2=>if r1=true then if r2=true then some 0 else some ((-1)) else if r2=true then some 1 else if a_x < a_y then some ((-1)) else if a_x > a_y then some 1 else some 0
@[simp] def g48_O:Int→TV×List Blk:=fun r=>((.int .i64 r),[])
def g48_E (a:Int×Int):List TV:=[(.int .i64 a.1),(.int .i64 a.2)]
theorem g48_run (a_x:Int) (a_y:Int) :callFn (X g48_S) g48_tf (g48_E (a_x,a_y)) []=(cmp_Compare_int64 a_x a_y).map g48_O:=by
  rw [callFn_eq]
  simp (maxSteps:=2000000) (maxDischargeDepth:=8) -implicitDefEqProofs [g48_tf,cmp_Compare_int64,g48_E] <;> (try simp only [map_to_bind,some_elim,g48_O])
def g48_r:Rule:=RlO g48_E (fun a=>cmp_Compare_int64 a.1 a.2) g48_O
theorem g48_ok:RuleOk Tryz.prog 117 g48_r:=ok_rlo (S:=g48_S) (tf:=g48_tf) (SysOk.on ⟨g69_ok,trivial⟩ trivial) (trE_ok (ks:=[]) Tryz.func117 (by kernel_rfl)) fun a=>g48_run a.1 a.2
@[simp] theorem g48_app (y0 y1):g48_r [(.int .i64 y0),(.int .i64 y1)]=(cmp_Compare_int64 y0 y1).map g48_O :=
  RlO_app (enc:=g48_E) (by intro a b h;simp [g48_E,Prod.ext_iff] at h ⊢;simp [h]) (y0,y1)
/-! impl.pageAt.1 -/
def g83_tf:TFn:=⟨(sq [bx 2 0,mk 4 (ki 0)] [1,2] (.seq (.ops [fa 5 0 2,ld 6 5,mo 7 1,ca 8 117 [.t 6,.t 7],mo 4 8]) (.keep (kp [(4,0)] [] 0) .ret))),[.t 4]⟩
abbrev g83_S:=Sys.on [(117,g48_r)] []
def impl_pageAt_c1 (a_p:Int×Str) (a_block:Int):Option (Int):=(cmp_Compare_int64 a_p.1 a_block).bind fun r1=>some r1
@[simp] def g83_O:Int→TV×List Blk:=fun r=>((.int .i64 r),[])
def g83_E (a:(Int×Str)×Int):List TV:=[(.agg [(.int .i64 a.1.1),(.str a.1.2)]),(.int .i64 a.2)]
theorem g83_run (a_p:Int×Str) (a_block:Int) :callFn (X g83_S) g83_tf (g83_E (a_p,a_block)) []=(impl_pageAt_c1 a_p a_block).map g83_O:=by
  rw [callFn_eq]
  simp (maxSteps:=2000000) (maxDischargeDepth:=8) -implicitDefEqProofs [g83_tf,impl_pageAt_c1,g83_E] <;> (try simp only [map_to_bind,some_elim,g83_O])
def g83_r:Rule:=RlO g83_E (fun a=>impl_pageAt_c1 a.1 a.2) g83_O
theorem g83_ok:RuleOk Tryz.prog 116 g83_r:=ok_rlo (S:=g83_S) (tf:=g83_tf) (SysOk.on ⟨g48_ok,trivial⟩ trivial) (trE_ok (ks:=[]) Tryz.func116 (by kernel_rfl)) fun a=>g83_run a.1 a.2
@[simp] theorem g83_app (y0 y1 y2):g83_r [(.agg [(.int .i64 y0),(.str y1)]),(.int .i64 y2)]=(impl_pageAt_c1 ((y0,y1)) y2).map g83_O :=
  RlO_app (enc:=g83_E) (by intro a b h;simp [g83_E,Prod.ext_iff] at h ⊢;simp [h]) ((y0,y1),y2)
/-! slices.BinarySearchFunc[[]impl.Page,impl.Page,int64] -/
def g0l1_cb:TC:=(.seq (sq [mo 15 9,mo 16 10,bn 17 .lss (.t 15) (.t 16)] [0,1,2,8,9,10,17] (.cond (.t 17) .skip (.keep (kp [(0,0),(1,0),(2,0),(8,0),(9,0)] [] 0) (.exit 0)))) (.trim [0,1,2,8,9,10] (.block 1 (sq [mo 18 9,mo 19 10,bn 20 .add (.t 18) (.t 19),oo 21 (.conv (.toInt .u64) (.t 20)),oo 22 (.bin .num .shr (.t 21) (.c (.int .u64 1))),oo 23 (.conv (.toInt .i64) (.t 22)),mo 11 23] [0,1,2,8,9,10,11] (sq [mo 24 2,mo 25 0,mo 26 11,ia 27 2 25 26,ln 28 2 27,mo 29 1,oo 30 (.callv (.t 24) [.t 28,.t 29]),bn 31 .lss (.t 30) (ki 0)] [0,1,2,8,9,10,11,31] (.cond (.t 31) (.after (.ops [mo 32 11,bn 33 .add (.t 32) (ki 1),mo 9 33]) (kp [(0,0),(1,0),(2,0),(8,0),(9,0),(10,0)] [] 0)) (.after (.ops [mo 34 11,mo 10 34]) (kp [(0,0),(1,0),(2,0),(8,0),(9,0),(10,0)] [] 0))))))))
def g0l1_c:TC:=.loop [0,1,2,8,9,10] g0l1_cb
def g0_tf:TFn:=⟨(sq [mk 6 (ki 0),mk 7 (kb false)] [0,1,2] (sq [mo 12 0,le 13 12,mo 8 13] [0,1,2,8] (sq [mo 14 8,mk 9 (ki 0),mo 10 14] [0,1,2,8,9,10] (.seq (.block 0 (.keep (kp [(0,0),(1,0),(2,0),(8,0),(9,0),(10,0)] [] 0) g0l1_c)) (.trim [0,1,2,8,9] (.seq (.after (.ops [mo 35 9,mo 36 9,mo 37 8,bn 38 .lss (.t 36) (.t 37),mo 39 38,⟨(some 40),(some (39,true)),(.mv (.t 2))⟩,⟨(some 41),(some (39,true)),(.mv (.t 0))⟩,⟨(some 42),(some (39,true)),(.mv (.t 9))⟩,⟨(some 43),(some (39,true)),(.iaddr 2 (.t 41) (.t 42))⟩,⟨(some 44),(some (39,true)),(.load (some 2) (.t 43))⟩,⟨(some 45),(some (39,true)),(.mv (.t 1))⟩,⟨(some 46),(some (39,true)),(.callv (.t 40) [.t 44,.t 45])⟩,⟨(some 47),(some (39,true)),(.bin .num .eql (.t 46) (ki 0))⟩,pk 48 (.t 39) (.t 47) (kb false),mo 6 35,mo 7 48]) (kp [(6,0),(7,0)] [] 0)) (.keep (kp [(6,0),(7,0)] [] 0) .ret))))))),[.t 6,.t 7]⟩
abbrev g0_S:=Sys.on [(116,g83_r)] []
@[reducible,simp] def g0l1_F:((List (Int×Str))×Int×Int×Int)→Out:=(fun t=>(.ext 0,[(0,(.vs (rows t.1))),(1,(.int .i64 t.2.1)),(2,(.fn 116 [] [])),(8,(.int .i64 t.2.2.1)),(9,(.int .i64 t.2.2.2))],[]))
def slices_BinarySearchFunc_impl_Page_impl_Page_int64__pageAt_c1_l1_b (v1:List (Int×Str)) (v2:Int) (v3:Int) (v4:Int) (v5:Int):Option ((Int×Int) ⊕ ((List (Int×Str))×Int×Int×Int)):=if v4 < v5 then if 0≤(IntKind.i64.wrap ((shrV .u64 ((IntKind.u64.wrap ((IntKind.i64.wrap (v4+v5))))) 1))) then (v1[((IntKind.i64.wrap ((shrV .u64 ((IntKind.u64.wrap ((IntKind.i64.wrap (v4+v5))))) 1)))).toNat]?).bind fun x6=>(impl_pageAt_c1 x6 v2).bind fun r7=>if r7 < 0 then some (.inl ((IntKind.i64.wrap ((IntKind.i64.wrap ((shrV .u64 ((IntKind.u64.wrap ((IntKind.i64.wrap (v4+v5))))) 1)))+1)),v5)) else some (.inl (v4,(IntKind.i64.wrap ((shrV .u64 ((IntKind.u64.wrap ((IntKind.i64.wrap (v4+v5))))) 1))))) else none else some (.inr (v1,v2,v3,v4))
theorem g0l1_b_eq  (v1:List (Int×Str)) (v2:Int) (v3:Int) (v4:Int) (v5:Int):X g0_S g0l1_cb (keepEnv [0,1,2,8,9,10] [(0,(.vs (rows v1))),(1,(.int .i64 v2)),(2,(.fn 116 [] [])),(8,(.int .i64 v3)),(9,(.int .i64 v4)),(10,(.int .i64 v5))]) []=(slices_BinarySearchFunc_impl_Page_impl_Page_int64__pageAt_c1_l1_b v1 v2 v3 v4 v5).map (Sum.elim (fun s=>(TX.nrm,[(0,(.vs (rows v1))),(1,(.int .i64 v2)),(2,(.fn 116 [] [])),(8,(.int .i64 v3)),(9,(.int .i64 s.1)),(10,(.int .i64 s.2))],[])) g0l1_F):=by
  simp (maxSteps:=2000000) (maxDischargeDepth:=8) -implicitDefEqProofs [g0l1_cb,slices_BinarySearchFunc_impl_Page_impl_Page_int64__pageAt_c1_l1_b] <;> (try simp only [map_to_bind,some_elim,g0l1_F])
def slices_BinarySearchFunc_impl_Page_impl_Page_int64__pageAt_c1_l1 (v1:List (Int×Str)) (v2:Int) (v3:Int) (s:Int×Int):Option ((List (Int×Str))×Int×Int×Int):=loopO (fun s=>slices_BinarySearchFunc_impl_Page_impl_Page_int64__pageAt_c1_l1_b v1 v2 v3 s.1 s.2) s
@[simp] theorem g0l1_eq (y0 y1 y2 y3 y4):X g0_S g0l1_c [(0,(.vs (rows y0))),(1,(.int .i64 y1)),(2,(.fn 116 [] [])),(8,(.int .i64 y2)),(9,(.int .i64 y3)),(10,(.int .i64 y4))] []=(slices_BinarySearchFunc_impl_Page_impl_Page_int64__pageAt_c1_l1 y0 y1 y2 (y3,y4)).map g0l1_F:=by
  exact loop_X _ _ _ _ (by intro r;first | (simp;done) | (rcases r with r | r <;> simp;done) | (rcases r with r | r | r <;> simp;done) | (rcases r with r | r | r | r <;> simp)) (fun s=>g0l1_b_eq  y0 y1 y2 s.1 s.2) (y3,y4)
def slices_BinarySearchFunc_impl_Page_impl_Page_int64__pageAt_c1 (a_x:List (Int×Str)) (a_target:Int):Option (Int×Bool):=(slices_BinarySearchFunc_impl_Page_impl_Page_int64__pageAt_c1_l1 a_x a_target ((a_x.length:Int)) ((0,(a_x.length:Int)))).bind fun r8=>if r8.2.2.2 < r8.2.2.1 then if 0≤r8.2.2.2 then (r8.1[(r8.2.2.2).toNat]?).bind fun x9=>(impl_pageAt_c1 x9 r8.2.1).bind fun r10=>some (r8.2.2.2,(decide (r10=0))) else none else some (r8.2.2.2,false)
@[simp] def g0_O:(Int×Bool)→TV×List Blk:=fun r=>((.tup [(.int .i64 r.1),(.bool r.2)]),[])
def g0_E (a:(List (Int×Str))×Int):List TV:=[(.vs (rows a.1)),(.int .i64 a.2),(.fn 116 [] [])]
theorem g0_run (a_x:List (Int×Str)) (a_target:Int) :callFn (X g0_S) g0_tf (g0_E (a_x,a_target)) []=(slices_BinarySearchFunc_impl_Page_impl_Page_int64__pageAt_c1 a_x a_target).map g0_O:=by
  rw [callFn_eq]
  simp (maxSteps:=2000000) (maxDischargeDepth:=8) -implicitDefEqProofs [g0_tf,slices_BinarySearchFunc_impl_Page_impl_Page_int64__pageAt_c1,g0_E] <;> (try simp only [map_to_bind,some_elim,g0_O])
def g0_r:Rule:=RlO g0_E (fun a=>slices_BinarySearchFunc_impl_Page_impl_Page_int64__pageAt_c1 a.1 a.2) g0_O
theorem g0_ok:RuleOk Tryz.prog 115 g0_r:=ok_rlo (S:=g0_S) (tf:=g0_tf) (SysOk.on ⟨g83_ok,trivial⟩ trivial) (trE_ok (ks:=[[0,1,2,8,9,10]]) Tryz.func115 (by kernel_rfl)) fun a=>g0_run a.1 a.2
@[simp] theorem g0_app (y0 y1):g0_r [(.vs (rows y0)),(.int .i64 y1),(.fn 116 [] [])]=(slices_BinarySearchFunc_impl_Page_impl_Page_int64__pageAt_c1 y0 y1).map g0_O :=
  RlO_app (enc:=g0_E) (by intro a b h;simp [g0_E,Prod.ext_iff] at h ⊢;simp [h]) (y0,y1)
/-! impl.pageAt -/
def g125_tf:TFn:=⟨(sq [mk 4 (ki 0),mk 5 (kb false)] [0,1] (.seq (.ops [mo 6 0,mo 7 1,oo 8 (.call 115 [.t 6,.t 7,(.c (.fn 116 [] []))]),oo 9 (.ext (.t 8) 0),oo 10 (.ext (.t 8) 1),mo 4 9,mo 5 10]) (.keep (kp [(4,0),(5,0)] [] 0) .ret))),[.t 4,.t 5]⟩
abbrev g125_S:=Sys.on [(115,g0_r)] []
def impl_pageAt (a_list:List (Int×Str)) (a_block:Int):Option (Int×Bool):=(slices_BinarySearchFunc_impl_Page_impl_Page_int64__pageAt_c1 a_list a_block).bind fun r1=>some (r1.1,r1.2)
@[simp] def g125_O:(Int×Bool)→TV×List Blk:=fun r=>((.tup [(.int .i64 r.1),(.bool r.2)]),[])
def g125_E (a:(List (Int×Str))×Int):List TV:=[(.vs (rows a.1)),(.int .i64 a.2)]
theorem g125_run (a_list:List (Int×Str)) (a_block:Int) :callFn (X g125_S) g125_tf (g125_E (a_list,a_block)) []=(impl_pageAt a_list a_block).map g125_O:=by
  rw [callFn_eq]
  simp (maxSteps:=2000000) (maxDischargeDepth:=8) -implicitDefEqProofs [g125_tf,impl_pageAt,g125_E] <;> (try simp only [map_to_bind,some_elim,g125_O])
def g125_r:Rule:=RlO g125_E (fun a=>impl_pageAt a.1 a.2) g125_O
theorem g125_ok:RuleOk Tryz.prog 85 g125_r:=ok_rlo (S:=g125_S) (tf:=g125_tf) (SysOk.on ⟨g0_ok,trivial⟩ trivial) (trE_ok (ks:=[]) Tryz.func85 (by kernel_rfl)) fun a=>g125_run a.1 a.2
@[simp] theorem g125_app (y0 y1):g125_r [(.vs (rows y0)),(.int .i64 y1)]=(impl_pageAt y0 y1).map g125_O :=
  RlO_app (enc:=g125_E) (by intro a b h;simp [g125_E,Prod.ext_iff] at h ⊢;simp [h]) (y0,y1)
/-! slices.Insert[[]impl.Page,impl.Page] -/
theorem g7_fn:FnOk Tryz.prog 90 (insertTF 83 [(.int .i64 0),(.str [])] 2 24 121 122):=trE_ok (ks:=[[8],[8]]) Tryz.func90 (by kernel_rfl)
theorem slices_Insert_impl_Page_impl_Page__ovl:OvlOk Tryz.prog 121 2:=⟨30,4,83,by kernel_rfl,info_ex (by kernel_rfl),fun args w=>run_callFunc_extern Tryz.func121 (by kernel_rfl) (by kernel_rfl) (by kernel_rfl) (e:=Extern.SlicesOverlaps.overlaps #[30,30] #[4]) (by kernel_rfl) args w⟩
def slices_Insert_impl_Page_impl_Page_ (l:List (Int×Str)) (i:Int) (v:List (Int×Str)):Option (List (Int×Str)):=insV 24 l i v
noncomputable def g7_r:MRule:=ins_rV (Int×Str) 2 24
theorem g7_ok:MRuleOk Tryz.prog 90 0 g7_r:=ins_okV rfl rfl slices_Insert_impl_Page_impl_Page__ovl g7_fn
@[simp] theorem g7_app (y0:List (Int×Str))(y1)(y2:List (Int×Str)){n1 n2:Nat}(h1:n1=y0.length)(h2:n2=y2.length):g7_r [(ow 0 n1),.int .i64 y1,(.hs 1 0 n2 true)] [(ob 2 y0),(.live 2 (rows y2))]=(slices_Insert_impl_Page_impl_Page_ y0 y1 y2).map (fun r=>((ow 0 r.length),[(ob 2 r)])):=insV_app 2 24 y0 y1 y2 h1 h2
/-! (*impl.Pager).set -/
def g31_tf:TFn:=⟨(sq [mk 6 (ki 0)] [0,1,2] (sq [mo 10 0,nk 11 10,fa 12 11 11,ld 13 12,mo 14 1,ca 15 85 [.t 13,.t 14],mo 9 15,oo 16 (.ext (.t 9) 0),oo 17 (.ext (.t 9) 1),mo 7 16,mo 8 17] [0,1,2,7,8] (.seq (.block 0 (sq [mo 32 8,mo 31 32] [0,1,2,7,31] (.cond (.t 31) (.after (.ops [mo 33 0,nk 34 33,fa 35 11 34,ld 36 35,mo 37 7,mo 38 2,ia 39 2 36 37,fa 40 1 39,⟨none,none,(.store 1 (.t 40) (.t 38))⟩]) (kp [] [(0,2),(1,1),(2,1),(3,1),(4,1)] 1)) (.seq (.draw [([],mo 42 0),([0],nk 43 42),([0,1],fa 44 4 43),([0,1,2],ln 45 4 44),([],mo 46 0),([4],nk 47 46),([4,5],fa 48 11 47),([4,5,6],ld 49 48),([4,5,6,7],le 50 49),([4,5,6,7,8],bn 51 .add (.t 50) (ki 1))] [ca 52 55 [.t 45,.t 51],nt 53 52,mo 41 53]) (.trim [0,1,2,7,41] (.cond (.t 41) (.seq (.ops [mk 6 (ki 5)]) (.keep (kp [(6,0)] [(0,2),(1,1),(2,1),(3,1),(4,1)] 1) .ret)) (.after (.ops [mo 18 0,mo 19 0,nk 20 19,fa 21 11 20,ld 22 21,mo 23 7,mo 24 1,mo 25 2,oo 26 (.build [(.int .i64 0),(.str [])] [(0,1,(.t 24)),(1,1,(.t 25))]),oo 27 (.bslice [(.int .i64 0),(.str [])] 1 [(0,(.t 26))]),oo 28 (.callM 90 0 [4,5] [.t 22,.t 23,.t 27]),nk 29 18,fa 30 11 29,⟨none,none,(.store 1 (.t 30) (.t 28))⟩]) (kp [] [(0,2),(1,1),(2,1),(3,1),(6,1)] 1)))))))) (.trim [] (.seq (.ops [mk 6 (ki 0)]) (.keep (kp [(6,0)] [(0,2),(1,1),(2,1),(3,1),(4,1)] 1) .ret)))))),[.t 6]⟩
abbrev g31_S:=Sys.on [(85,g125_r),(55,g65_r)] [((90,0),(0,g7_r))]
def impl_Pager_set_oc8 (a1:K1) (a2:Int) (a3:Str):Option (K1×Int):=(impl_pageAt a1.2.2.2.2.2 a2).bind fun r1=>if r1.2=true then if 0≤r1.1∧r1.1 < ((a1.2.2.2.2.2.length:Nat):Int) then (a1.2.2.2.2.2[(r1.1).toNat]?).bind fun x2=>some ((a1.1,a1.2.1,a1.2.2.1,a1.2.2.2.1,a1.2.2.2.2.1,(a1.2.2.2.2.2.set (r1.1).toNat (x2.1,a3))),0) else none else (impl_Super_fits a1.2.1 ((IntKind.i64.wrap (((a1.2.2.2.2.2.length:Nat):Int)+1)))).bind fun r3=>if ¬(r3=true) then some (a1,5) else (slices_Insert_impl_Page_impl_Page_ a1.2.2.2.2.2 r1.1 ((lit [(a2,a3)]:List (Int×Str)))).bind fun r4=>some ((a1.1,a1.2.1,a1.2.2.1,a1.2.2.2.1,a1.2.2.2.2.1,r4),0)
@[simp] def g31_O:(K1×Int)→TV×List Blk:=fun r=>((.int .i64 r.2),[(.live 12 [[(ow 1 r.1.1.1.length),(ow 2 r.1.1.2.1.length),(.int .i64 r.1.1.2.2.1),(.bool r.1.1.2.2.2),(.int .i64 r.1.2.1.1),(.int .i64 r.1.2.1.2.1),(.int .i64 r.1.2.1.2.2.1),(.int .i64 r.1.2.1.2.2.2),(.int .i64 r.1.2.2.1),(.int .i64 r.1.2.2.2.1),(ow 3 r.1.2.2.2.2.1.length),(ow 4 r.1.2.2.2.2.2.length)]]),(ob 1 r.1.1.1),(ob 2 r.1.1.2.1),(ob 2 r.1.2.2.2.2.1),(ob 2 r.1.2.2.2.2.2)])
abbrev g31_T:=K1×Int×Str
def g31_E (a:g31_T):List TV:=[(.ptr 0 0 0),(.int .i64 a.2.1),(.str a.2.2)]
def g31_B (a:g31_T):List Blk:=[(.live 12 [[(ow 1 a.1.1.1.length),(ow 2 a.1.1.2.1.length),(.int .i64 a.1.1.2.2.1),(.bool a.1.1.2.2.2),(.int .i64 a.1.2.1.1),(.int .i64 a.1.2.1.2.1),(.int .i64 a.1.2.1.2.2.1),(.int .i64 a.1.2.1.2.2.2),(.int .i64 a.1.2.2.1),(.int .i64 a.1.2.2.2.1),(ow 3 a.1.2.2.2.2.1.length),(ow 4 a.1.2.2.2.2.2.length)]]),(ob 1 a.1.1.1),(ob 2 a.1.1.2.1),(ob 2 a.1.2.2.2.2.1),(ob 2 a.1.2.2.2.2.2)]
theorem g31_run (a1:K1) (a2:Int) (a3:Str) :callFn (X g31_S) g31_tf (g31_E (a1,a2,a3)) (g31_B (a1,a2,a3))=(impl_Pager_set_oc8 a1 a2 a3).map g31_O:=by
  rw [callFn_eq]
  simp (maxSteps:=2000000) (maxDischargeDepth:=8) -implicitDefEqProofs [g31_tf,impl_Pager_set_oc8,g31_E,g31_B,bslV_lit (α:=Int×Str) (zs:=[(.int .i64 0),(.str [])])] <;> (try simp only [map_to_bind,some_elim,g31_O])
def g31_r:MRule:=RmO g31_E g31_B (fun a=>impl_Pager_set_oc8 a.1 a.2.1 a.2.2) g31_O
theorem g31_ok:MRuleOk Tryz.prog 69 1 g31_r:=ok_rmo (S:=g31_S) (tf:=g31_tf) (SysOk.on ⟨g125_ok,g65_ok,trivial⟩ ⟨g7_ok,trivial⟩) (trE_ok (ks:=[[10]]) Tryz.func69 (by kernel_rfl)) (by rfl) (fun _=>by simp [g31_B]) (fun _=>by simp) fun a=>g31_run a.1 a.2.1 a.2.2
@[simp] theorem g31_app (y0:List Str)(y1:List (Int×Str))(y2 y3 y4 y5 y6 y7 y8 y9)(y10:List (Int×Str))(y11:List (Int×Str))(y12 y13){n1:Nat}(h1:n1=y0.length){n2:Nat}(h2:n2=y1.length){n3:Nat}(h3:n3=y10.length){n4:Nat}(h4:n4=y11.length):g31_r [(.ptr 0 0 0),(.int .i64 y12),(.str y13)] [(.live 12 [[(ow 1 n1),(ow 2 n2),(.int .i64 y2),(.bool y3),(.int .i64 y4),(.int .i64 y5),(.int .i64 y6),(.int .i64 y7),(.int .i64 y8),(.int .i64 y9),(ow 3 n3),(ow 4 n4)]]),(ob 1 y0),(ob 2 y1),(ob 2 y10),(ob 2 y11)]=(impl_Pager_set_oc8 (((y0,y1,y2,y3),(y4,y5,y6,y7),y8,y9,y10,y11)) y12 y13).map g31_O:=by
  subst h1 h2 h3 h4
  exact RmO_app (enc:=g31_E) (encB:=g31_B) (by intro a b h h2;simp [g31_E,g31_B,Prod.ext_iff] at h h2 ⊢;simp [h,h2]) (((y0,y1,y2,y3),(y4,y5,y6,y7),y8,y9,y10,y11),y12,y13)
/-! (*impl.Pager).writeRun -/
def g15l1_cb:TC:=(sq [bn 21 .lss (.t 20) (.t 19)] [0,1,18,19,20,21] (.seq (.cond (.t 21) .skip (.keep (kp [] [(0,2),(1,1),(2,1),(3,1),(4,1)] 1) (.exit 0))) (.trim [0,1,18,19,20] (.seq (.block 1 (sq [mo 22 20,ia 23 1 18 20,ld 24 23,mo 8 22,mo 9 24] [0,1,8,9,18,19,20] (sq [mo 25 0,mo 26 1,mo 27 8,bn 28 .add (.t 26) (.t 27),mo 29 9,oo 30 (.callM 69 0 [0,1,2,3,4] [.t 25,.t 28,.t 29]),mo 10 30] [0,1,10,18,19,20] (sq [mo 31 10,bn 32 .neq (.t 31) (ki 0)] [0,1,10,18,19,20,32] (.cond (.t 32) (.seq (.ops [mo 33 10,mo 6 33]) (.keep (kp [(6,0)] [(0,2),(6,1),(7,1),(8,1),(9,1)] 1) .ret)) .skip))))) (.trim [0,1,18,19,20] (.after (.ops [bn 34 .add (.t 20) (ki 1),mo 20 34]) (kp [(0,0),(1,0),(18,1),(19,0),(20,0)] [(0,2),(6,1),(7,1),(8,1),(9,1),(5,1)] 1)))))))
def g15l1_c:TC:=.loop [0,1,18,19,20] g15l1_cb
def g15_tf:TFn:=⟨(sq [mk 6 (ki 0)] [0,1,2] (sq [mo 11 2,oo 12 (.len true (.t 11)),ca 13 41 [.t 12],mo 7 13] [0,1,2,7] (.seq (sq [mo 14 2,mo 15 7,bn 16 .mul (.t 15) (ki 64),ca 17 68 [.t 14,.t 16],ca 18 67 [.t 17],le 19 18,mk 20 (ki 0)] [0,1,18,19,20] (.block 0 (.keep (kp [(0,0),(1,0),(18,1),(19,0),(20,0)] [(0,2),(1,1),(2,1),(3,1),(4,1),(5,1)] 1) g15l1_c))) (.trim [] (.seq (.ops [mk 6 (ki 0)]) (.keep (kp [(6,0)] [(0,2),(1,1),(2,1),(3,1),(4,1)] 1) .ret)))))),[.t 6]⟩
abbrev g15_S:=Sys.on [(41,g81_r),(68,g124_r),(67,g94_r)] [((69,0),(1,g31_r))]
@[reducible,simp] def g15l1_F:((K1) ⊕ (K1×Int))→Out:=(Sum.elim (fun t=>(.ext 0,[],[(.live 12 [[(ow 1 t.1.1.length),(ow 2 t.1.2.1.length),(.int .i64 t.1.2.2.1),(.bool t.1.2.2.2),(.int .i64 t.2.1.1),(.int .i64 t.2.1.2.1),(.int .i64 t.2.1.2.2.1),(.int .i64 t.2.1.2.2.2),(.int .i64 t.2.2.1),(.int .i64 t.2.2.2.1),(ow 3 t.2.2.2.2.1.length),(ow 4 t.2.2.2.2.2.length)]]),(ob 1 t.1.1),(ob 2 t.1.2.1),(ob 2 t.2.2.2.2.1),(ob 2 t.2.2.2.2.2)])) (fun t=>(.ret,[(6,(.int .i64 t.2))],[(.live 12 [[(ow 1 t.1.1.1.length),(ow 2 t.1.1.2.1.length),(.int .i64 t.1.1.2.2.1),(.bool t.1.1.2.2.2),(.int .i64 t.1.2.1.1),(.int .i64 t.1.2.1.2.1),(.int .i64 t.1.2.1.2.2.1),(.int .i64 t.1.2.1.2.2.2),(.int .i64 t.1.2.2.1),(.int .i64 t.1.2.2.2.1),(ow 3 t.1.2.2.2.2.1.length),(ow 4 t.1.2.2.2.2.2.length)]]),(ob 1 t.1.1.1),(ob 2 t.1.1.2.1),(ob 2 t.1.2.2.2.2.1),(ob 2 t.1.2.2.2.2.2)])))
def impl_Pager_writeRun_oc8_l1_b (v5:Int) (v6:List Str) (v7:Int) (v4:K1) (v8:Int):Option ((K1×Int) ⊕ ((K1) ⊕ (K1×Int))):=if v8 < v7 then if 0≤v8∧v8 < ((v6.length:Nat):Int) then (v6[(v8).toNat]?).bind fun x9=>(impl_Pager_set_oc8 v4 ((IntKind.i64.wrap (v5+v8))) x9).bind fun r10=>if ¬(r10.2=0) then some (.inr (.inr (r10.1,r10.2))) else some (.inl (r10.1,(IntKind.i64.wrap (v8+1)))) else none else some (.inr (.inl v4))
theorem g15l1_b_eq  (v5:Int) (v6:List Str) (v7:Int) (v4:K1) (v8:Int):X g15_S g15l1_cb (keepEnv [0,1,18,19,20] [(0,(.ptr 0 0 0)),(1,(.int .i64 v5)),(18,(ow 5 v6.length)),(19,(.int .i64 v7)),(20,(.int .i64 v8))]) [(.live 12 [[(ow 1 v4.1.1.length),(ow 2 v4.1.2.1.length),(.int .i64 v4.1.2.2.1),(.bool v4.1.2.2.2),(.int .i64 v4.2.1.1),(.int .i64 v4.2.1.2.1),(.int .i64 v4.2.1.2.2.1),(.int .i64 v4.2.1.2.2.2),(.int .i64 v4.2.2.1),(.int .i64 v4.2.2.2.1),(ow 3 v4.2.2.2.2.1.length),(ow 4 v4.2.2.2.2.2.length)]]),(ob 1 v4.1.1),(ob 2 v4.1.2.1),(ob 2 v4.2.2.2.2.1),(ob 2 v4.2.2.2.2.2),(ob 1 v6)]=(impl_Pager_writeRun_oc8_l1_b v5 v6 v7 v4 v8).map (Sum.elim (fun s=>(TX.nrm,[(0,(.ptr 0 0 0)),(1,(.int .i64 v5)),(18,(ow 5 v6.length)),(19,(.int .i64 v7)),(20,(.int .i64 s.2))],[(.live 12 [[(ow 1 s.1.1.1.length),(ow 2 s.1.1.2.1.length),(.int .i64 s.1.1.2.2.1),(.bool s.1.1.2.2.2),(.int .i64 s.1.2.1.1),(.int .i64 s.1.2.1.2.1),(.int .i64 s.1.2.1.2.2.1),(.int .i64 s.1.2.1.2.2.2),(.int .i64 s.1.2.2.1),(.int .i64 s.1.2.2.2.1),(ow 3 s.1.2.2.2.2.1.length),(ow 4 s.1.2.2.2.2.2.length)]]),(ob 1 s.1.1.1),(ob 2 s.1.1.2.1),(ob 2 s.1.2.2.2.2.1),(ob 2 s.1.2.2.2.2.2),(ob 1 v6)])) g15l1_F):=by
  simp (maxSteps:=2000000) (maxDischargeDepth:=8) -implicitDefEqProofs [g15l1_cb,impl_Pager_writeRun_oc8_l1_b] <;> (try simp only [map_to_bind,some_elim,g15l1_F])
def impl_Pager_writeRun_oc8_l1 (v5:Int) (v6:List Str) (v7:Int) (s:K1×Int):Option ((K1) ⊕ (K1×Int)):=loopO (fun s=>impl_Pager_writeRun_oc8_l1_b v5 v6 v7 s.1 s.2) s
@[simp] theorem g15l1_eq (y0:List Str)(y1:List (Int×Str))(y2 y3 y4 y5 y6 y7 y8 y9)(y10:List (Int×Str))(y11:List (Int×Str))(y12)(y13:List Str)(y14 y15){n1:Nat}(h1:n1=y13.length){n2:Nat}(h2:n2=y0.length){n3:Nat}(h3:n3=y1.length){n4:Nat}(h4:n4=y10.length){n5:Nat}(h5:n5=y11.length):X g15_S g15l1_c [(0,(.ptr 0 0 0)),(1,(.int .i64 y12)),(18,(ow 5 n1)),(19,(.int .i64 y14)),(20,(.int .i64 y15))] [(.live 12 [[(ow 1 n2),(ow 2 n3),(.int .i64 y2),(.bool y3),(.int .i64 y4),(.int .i64 y5),(.int .i64 y6),(.int .i64 y7),(.int .i64 y8),(.int .i64 y9),(ow 3 n4),(ow 4 n5)]]),(ob 1 y0),(ob 2 y1),(ob 2 y10),(ob 2 y11),(ob 1 y13)]=(impl_Pager_writeRun_oc8_l1 y12 y13 y14 (((y0,y1,y2,y3),(y4,y5,y6,y7),y8,y9,y10,y11),y15)).map g15l1_F:=by
  subst h1 h2 h3 h4 h5
  exact loop_X _ _ _ _ (by intro r;first | (simp;done) | (rcases r with r | r <;> simp;done) | (rcases r with r | r | r <;> simp;done) | (rcases r with r | r | r | r <;> simp)) (fun s=>g15l1_b_eq  y12 y13 y14 s.1 s.2) (((y0,y1,y2,y3),(y4,y5,y6,y7),y8,y9,y10,y11),y15)
def impl_Pager_writeRun_oc8 (a1:K1) (a2:Int) (a3:Str):Option (K1×Int):=(impl_blocksFor ((a3.length:Int))).bind fun r1=>(impl_padded a3 ((IntKind.i64.wrap (r1 * 64)))).bind fun r2=>(impl_blocksOf r2).bind fun r3=>(impl_Pager_writeRun_oc8_l1 a2 r3 (((r3.length:Nat):Int)) ((a1,0))).bind fun r11=>Sum.elim (fun u12=>some (u12,0)) (fun u13=>some (u13.1,u13.2)) r11
@[simp] def g15_O:(K1×Int)→TV×List Blk:=fun r=>((.int .i64 r.2),[(.live 12 [[(ow 1 r.1.1.1.length),(ow 2 r.1.1.2.1.length),(.int .i64 r.1.1.2.2.1),(.bool r.1.1.2.2.2),(.int .i64 r.1.2.1.1),(.int .i64 r.1.2.1.2.1),(.int .i64 r.1.2.1.2.2.1),(.int .i64 r.1.2.1.2.2.2),(.int .i64 r.1.2.2.1),(.int .i64 r.1.2.2.2.1),(ow 3 r.1.2.2.2.2.1.length),(ow 4 r.1.2.2.2.2.2.length)]]),(ob 1 r.1.1.1),(ob 2 r.1.1.2.1),(ob 2 r.1.2.2.2.2.1),(ob 2 r.1.2.2.2.2.2)])
abbrev g15_T:=K1×Int×Str
def g15_E (a:g15_T):List TV:=[(.ptr 0 0 0),(.int .i64 a.2.1),(.str a.2.2)]
def g15_B (a:g15_T):List Blk:=[(.live 12 [[(ow 1 a.1.1.1.length),(ow 2 a.1.1.2.1.length),(.int .i64 a.1.1.2.2.1),(.bool a.1.1.2.2.2),(.int .i64 a.1.2.1.1),(.int .i64 a.1.2.1.2.1),(.int .i64 a.1.2.1.2.2.1),(.int .i64 a.1.2.1.2.2.2),(.int .i64 a.1.2.2.1),(.int .i64 a.1.2.2.2.1),(ow 3 a.1.2.2.2.2.1.length),(ow 4 a.1.2.2.2.2.2.length)]]),(ob 1 a.1.1.1),(ob 2 a.1.1.2.1),(ob 2 a.1.2.2.2.2.1),(ob 2 a.1.2.2.2.2.2)]
theorem g15_run (a1:K1) (a2:Int) (a3:Str) :callFn (X g15_S) g15_tf (g15_E (a1,a2,a3)) (g15_B (a1,a2,a3))=(impl_Pager_writeRun_oc8 a1 a2 a3).map g15_O:=by
  rw [callFn_eq]
  simp (maxSteps:=2000000) (maxDischargeDepth:=8) -implicitDefEqProofs [g15_tf,impl_Pager_writeRun_oc8,g15_E,g15_B] <;> (try simp only [map_to_bind,some_elim,g15_O])
def g15_r:MRule:=RmO g15_E g15_B (fun a=>impl_Pager_writeRun_oc8 a.1 a.2.1 a.2.2) g15_O
theorem g15_ok:MRuleOk Tryz.prog 40 1 g15_r:=ok_rmo (S:=g15_S) (tf:=g15_tf) (SysOk.on ⟨g81_ok,g124_ok,g94_ok,trivial⟩ ⟨g31_ok,trivial⟩) (trE_ok (ks:=[[0,1,18,19,20]]) Tryz.func40 (by kernel_rfl)) (by rfl) (fun _=>by simp [g15_B]) (fun _=>by simp) fun a=>g15_run a.1 a.2.1 a.2.2
@[simp] theorem g15_app (y0:List Str)(y1:List (Int×Str))(y2 y3 y4 y5 y6 y7 y8 y9)(y10:List (Int×Str))(y11:List (Int×Str))(y12 y13){n1:Nat}(h1:n1=y0.length){n2:Nat}(h2:n2=y1.length){n3:Nat}(h3:n3=y10.length){n4:Nat}(h4:n4=y11.length):g15_r [(.ptr 0 0 0),(.int .i64 y12),(.str y13)] [(.live 12 [[(ow 1 n1),(ow 2 n2),(.int .i64 y2),(.bool y3),(.int .i64 y4),(.int .i64 y5),(.int .i64 y6),(.int .i64 y7),(.int .i64 y8),(.int .i64 y9),(ow 3 n3),(ow 4 n4)]]),(ob 1 y0),(ob 2 y1),(ob 2 y10),(ob 2 y11)]=(impl_Pager_writeRun_oc8 (((y0,y1,y2,y3),(y4,y5,y6,y7),y8,y9,y10,y11)) y12 y13).map g15_O:=by
  subst h1 h2 h3 h4
  exact RmO_app (enc:=g15_E) (encB:=g15_B) (by intro a b h h2;simp [g15_E,g15_B,Prod.ext_iff] at h h2 ⊢;simp [h,h2]) (((y0,y1,y2,y3),(y4,y5,y6,y7),y8,y9,y10,y11),y12,y13)
/-! impl.WriteRun.1 -/
def g22_tf:TFn:=⟨(sq [mk 4 (ki 0)] [0,1,2] (.seq (.ops [mo 5 0,ld 6 1,ld 7 2,oo 8 (.callM 40 0 [0,1,2,3,4] [.t 5,.t 6,.t 7]),mo 4 8]) (.keep (kp [(4,0)] [(0,2),(5,1),(6,1),(7,1),(8,1)] 1) .ret))),[.t 4]⟩
abbrev g22_S:=Sys.on [] [((40,0),(1,g15_r))]
def impl_WriteRun_c1_o42 (a1:K1) (a2:Int) (a3:Str):Option (K1×Int):=(impl_Pager_writeRun_oc8 a1 a2 a3).bind fun r1=>some (r1.1,r1.2)
@[simp] def g22_O:(K1×Int)→TV×List Blk:=fun r=>((.int .i64 r.2),[(.live 12 [[(ow 1 r.1.1.1.length),(ow 2 r.1.1.2.1.length),(.int .i64 r.1.1.2.2.1),(.bool r.1.1.2.2.2),(.int .i64 r.1.2.1.1),(.int .i64 r.1.2.1.2.1),(.int .i64 r.1.2.1.2.2.1),(.int .i64 r.1.2.1.2.2.2),(.int .i64 r.1.2.2.1),(.int .i64 r.1.2.2.2.1),(ow 3 r.1.2.2.2.2.1.length),(ow 4 r.1.2.2.2.2.2.length)]]),(ob 1 r.1.1.1),(ob 2 r.1.1.2.1),(ob 2 r.1.2.2.2.2.1),(ob 2 r.1.2.2.2.2.2)])
abbrev g22_T:=K1×Int×Str
def g22_E (a:g22_T):List TV:=[(.ptr 0 0 0),(.vp [(.int .i64 a.2.1)]),(.vp [(.str a.2.2)])]
def g22_B (a:g22_T):List Blk:=[(.live 12 [[(ow 1 a.1.1.1.length),(ow 2 a.1.1.2.1.length),(.int .i64 a.1.1.2.2.1),(.bool a.1.1.2.2.2),(.int .i64 a.1.2.1.1),(.int .i64 a.1.2.1.2.1),(.int .i64 a.1.2.1.2.2.1),(.int .i64 a.1.2.1.2.2.2),(.int .i64 a.1.2.2.1),(.int .i64 a.1.2.2.2.1),(ow 3 a.1.2.2.2.2.1.length),(ow 4 a.1.2.2.2.2.2.length)]]),(ob 1 a.1.1.1),(ob 2 a.1.1.2.1),(ob 2 a.1.2.2.2.2.1),(ob 2 a.1.2.2.2.2.2)]
theorem g22_run (a1:K1) (a2:Int) (a3:Str) :callFn (X g22_S) g22_tf (g22_E (a1,a2,a3)) (g22_B (a1,a2,a3))=(impl_WriteRun_c1_o42 a1 a2 a3).map g22_O:=by
  rw [callFn_eq]
  simp (maxSteps:=2000000) (maxDischargeDepth:=8) -implicitDefEqProofs [g22_tf,impl_WriteRun_c1_o42,g22_E,g22_B] <;> (try simp only [map_to_bind,some_elim,g22_O])
def g22_r:MRule:=RmO g22_E g22_B (fun a=>impl_WriteRun_c1_o42 a.1 a.2.1 a.2.2) g22_O
theorem g22_ok:MRuleOk Tryz.prog 39 1 g22_r:=ok_rmo (S:=g22_S) (tf:=g22_tf) (SysOk.on trivial ⟨g15_ok,trivial⟩) (trE_ok (ks:=[]) Tryz.func39 (by kernel_rfl)) (by rfl) (fun _=>by simp [g22_B]) (fun _=>by simp) fun a=>g22_run a.1 a.2.1 a.2.2
@[simp] theorem g22_app (y0:List Str)(y1:List (Int×Str))(y2 y3 y4 y5 y6 y7 y8 y9)(y10:List (Int×Str))(y11:List (Int×Str))(y12 y13){n1:Nat}(h1:n1=y0.length){n2:Nat}(h2:n2=y1.length){n3:Nat}(h3:n3=y10.length){n4:Nat}(h4:n4=y11.length):g22_r [(.ptr 0 0 0),(.vp [(.int .i64 y12)]),(.vp [(.str y13)])] [(.live 12 [[(ow 1 n1),(ow 2 n2),(.int .i64 y2),(.bool y3),(.int .i64 y4),(.int .i64 y5),(.int .i64 y6),(.int .i64 y7),(.int .i64 y8),(.int .i64 y9),(ow 3 n3),(ow 4 n4)]]),(ob 1 y0),(ob 2 y1),(ob 2 y10),(ob 2 y11)]=(impl_WriteRun_c1_o42 (((y0,y1,y2,y3),(y4,y5,y6,y7),y8,y9,y10,y11)) y12 y13).map g22_O:=by
  subst h1 h2 h3 h4
  exact RmO_app (enc:=g22_E) (encB:=g22_B) (by intro a b h h2;simp [g22_E,g22_B,Prod.ext_iff] at h h2 ⊢;simp [h,h2]) (((y0,y1,y2,y3),(y4,y5,y6,y7),y8,y9,y10,y11),y12,y13)
/-! (impl.Pager).changed -/
def g11_tf:TFn:=⟨(sq [bx 2 0,oo 4 (.alloc [.nils,.nils,(.int .i64 0),(.bool false),(.int .i64 0),(.int .i64 0),(.int .i64 0),(.int .i64 0),(.int .i64 0),(.int .i64 0),.nils,.nils]),mk 5 (ki 0)] [1,2,4] (sq [ln 8 12 2,ca 9 59 [.t 8],oo 6 (.alloc [.nils,.nils,(.int .i64 0),(.bool false),(.int .i64 0),(.int .i64 0),(.int .i64 0),(.int .i64 0),(.int .i64 0),(.int .i64 0),.nils,.nils]),⟨none,none,(.store 12 (.t 6) (.t 9))⟩] [1,4,6] (.seq (sq [mo 10 1,oo 11 (.callvM (.t 10) 0 [7,3,4,5,6] [.t 6]),mo 7 11] [4,6,7] (sq [mo 12 7,bn 13 .neq (.t 12) (ki 0)] [4,6,7,13] (.cond (.t 13) (.seq (.ops [oo 14 (.build [.nils,.nils,(.int .i64 0),(.bool false),(.int .i64 0),(.int .i64 0),(.int .i64 0),(.int .i64 0),(.int .i64 0),(.int .i64 0),.nils,.nils] []),mo 15 7,⟨none,none,(.store 12 (.t 4) (.t 14))⟩,mo 5 15]) (.keep (kp [(4,0),(5,0)] [(1,2),(1000,1),(1001,1),(1002,1),(1003,1)] 0) .ret)) .skip))) (.trim [4,6] (.seq (.ops [ln 16 12 6,⟨none,none,(.store 12 (.t 4) (.t 16))⟩,mk 5 (ki 0)]) (.keep (kp [(4,0),(5,0)] [(1,2),(8,1),(9,1),(10,1),(11,1)] 0) .ret)))))),[.cell 4 (some 12),.t 5]⟩
abbrev g11_S:=Sys.on [(59,g56_r)] [((39,0),(1,g22_r))]
def impl_Pager_changed_WriteRun_c1 (a_p:K1) (a_by:Int) (a_by':Str):Option (K1×Int):=(impl_Pager_clone a_p).bind fun r1=>(impl_WriteRun_c1_o42 r1 a_by a_by').bind fun r2=>if ¬(r2.2=0) then some (((([]:List Str),([]:List (Int×Str)),0,false),(0,0,0,0),0,0,([]:List (Int×Str)),([]:List (Int×Str))),r2.2) else some (r2.1,0)
@[simp] def g11_O:(K1×Int)→TV×List Blk:=fun r=>((.tup [(.agg [(ow 1 r.1.1.1.length),(ow 2 r.1.1.2.1.length),(.int .i64 r.1.1.2.2.1),(.bool r.1.1.2.2.2),(.int .i64 r.1.2.1.1),(.int .i64 r.1.2.1.2.1),(.int .i64 r.1.2.1.2.2.1),(.int .i64 r.1.2.1.2.2.2),(.int .i64 r.1.2.2.1),(.int .i64 r.1.2.2.2.1),(ow 3 r.1.2.2.2.2.1.length),(ow 4 r.1.2.2.2.2.2.length)]),(.int .i64 r.2)]),[(.live 12 [[(ow 1 r.1.1.1.length),(ow 2 r.1.1.2.1.length),(.int .i64 r.1.1.2.2.1),(.bool r.1.1.2.2.2),(.int .i64 r.1.2.1.1),(.int .i64 r.1.2.1.2.1),(.int .i64 r.1.2.1.2.2.1),(.int .i64 r.1.2.1.2.2.2),(.int .i64 r.1.2.2.1),(.int .i64 r.1.2.2.2.1),(ow 3 r.1.2.2.2.2.1.length),(ow 4 r.1.2.2.2.2.2.length)]]),(ob 1 r.1.1.1),(ob 2 r.1.1.2.1),(ob 2 r.1.2.2.2.2.1),(ob 2 r.1.2.2.2.2.2)])
def g11_E (a:K1×Int×Str):List TV:=[(.agg [(.vs (rows a.1.1.1)),(.vs (rows a.1.1.2.1)),(.int .i64 a.1.1.2.2.1),(.bool a.1.1.2.2.2),(.int .i64 a.1.2.1.1),(.int .i64 a.1.2.1.2.1),(.int .i64 a.1.2.1.2.2.1),(.int .i64 a.1.2.1.2.2.2),(.int .i64 a.1.2.2.1),(.int .i64 a.1.2.2.2.1),(.vs (rows a.1.2.2.2.2.1)),(.vs (rows a.1.2.2.2.2.2))]),(.fn 39 [] [(.vp [(.int .i64 a.2.1)]),(.vp [(.str a.2.2)])])]
theorem g11_run (a_p:K1) (a_by:Int) (a_by':Str) :callFn (X g11_S) g11_tf (g11_E (a_p,a_by,a_by')) []=(impl_Pager_changed_WriteRun_c1 a_p a_by a_by').map g11_O:=by
  rw [callFn_eq]
  simp (maxSteps:=2000000) (maxDischargeDepth:=8) -implicitDefEqProofs [g11_tf,impl_Pager_changed_WriteRun_c1,g11_E] <;> (try simp only [map_to_bind,some_elim,g11_O])
def g11_r:Rule:=RlO g11_E (fun a=>impl_Pager_changed_WriteRun_c1 a.1 a.2.1 a.2.2) g11_O
theorem g11_ok:RuleOk Tryz.prog 28 g11_r:=ok_rlo (S:=g11_S) (tf:=g11_tf) (SysOk.on ⟨g56_ok,trivial⟩ ⟨g22_ok,trivial⟩) (trE_ok (ks:=[]) Tryz.func28 (by kernel_rfl)) fun a=>g11_run a.1 a.2.1 a.2.2
@[simp] theorem g11_app (y0 y1 y2 y3 y4 y5 y6 y7 y8 y9 y10 y11 y12 y13):g11_r [(.agg [(.vs (rows y0)),(.vs (rows y1)),(.int .i64 y2),(.bool y3),(.int .i64 y4),(.int .i64 y5),(.int .i64 y6),(.int .i64 y7),(.int .i64 y8),(.int .i64 y9),(.vs (rows y10)),(.vs (rows y11))]),(.fn 39 [] [(.vp [(.int .i64 y12)]),(.vp [(.str y13)])])]=(impl_Pager_changed_WriteRun_c1 (((y0,y1,y2,y3),(y4,y5,y6,y7),y8,y9,y10,y11)) y12 y13).map g11_O :=
  RlO_app (enc:=g11_E) (by intro a b h;simp [g11_E,Prod.ext_iff] at h ⊢;simp [h]) (((y0,y1,y2,y3),(y4,y5,y6,y7),y8,y9,y10,y11),y12,y13)
/-! impl.WriteRun -/
def g95_tf:TFn:=⟨(sq [bx 3 0,bx 4 1,bx 5 2,oo 6 (.alloc [.nils,.nils,(.int .i64 0),(.bool false),(.int .i64 0),(.int .i64 0),(.int .i64 0),(.int .i64 0),(.int .i64 0),(.int .i64 0),.nils,.nils]),mk 7 (ki 0)] [3,4,5,6] (.seq (.block 0 (sq [ln 9 12 3,ca 10 24 [.t 9],nt 11 10,mo 8 11] [3,4,5,6,8] (.cond (.t 8) (.seq (.ops [oo 12 (.build [.nils,.nils,(.int .i64 0),(.bool false),(.int .i64 0),(.int .i64 0),(.int .i64 0),(.int .i64 0),(.int .i64 0),(.int .i64 0),.nils,.nils] []),⟨none,none,(.store 12 (.t 6) (.t 12))⟩,mk 7 (ki 1)]) (.keep (kp [(6,0),(7,0)] [(3,2),(1000,1),(1001,1),(1002,1),(1003,1)] 0) .ret)) (sq [ld 14 4,ld 15 5,oo 16 (.len true (.t 15)),ca 17 38 [.t 3,.t 14,.t 16],nt 18 17,mo 13 18] [3,4,5,6,13] (.cond (.t 13) (.seq (.ops [oo 19 (.build [.nils,.nils,(.int .i64 0),(.bool false),(.int .i64 0),(.int .i64 0),(.int .i64 0),(.int .i64 0),(.int .i64 0),(.int .i64 0),.nils,.nils] []),⟨none,none,(.store 12 (.t 6) (.t 19))⟩,mk 7 (ki 2)]) (.keep (kp [(6,0),(7,0)] [(3,2),(1000,1),(1001,1),(1002,1),(1003,1)] 0) .ret)) .skip))))) (.trim [3,4,5,6] (.seq (.ops [ln 20 12 3,oo 21 (.mkfn 39 [] [.t 4,.t 5]),ca 22 28 [.t 20,.t 21],oo 23 (.ext (.t 22) 0),oo 24 (.ext (.t 22) 1),⟨none,none,(.store 12 (.t 6) (.t 23))⟩,mo 7 24]) (.keep (kp [(6,0),(7,0)] [(3,2),(5,1),(6,1),(7,1),(8,1)] 0) .ret))))),[.cell 6 (some 12),.t 7]⟩
abbrev g95_S:=Sys.on [(24,g66_r),(38,g55_r),(28,g11_r)] []
def impl_WriteRun (a_p:K1) (a_at:Int) (a_data:Str):Option (K1×Int):=(impl_ValidPager a_p).bind fun r1=>if ¬(r1=true) then some (((([]:List Str),([]:List (Int×Str)),0,false),(0,0,0,0),0,0,([]:List (Int×Str)),([]:List (Int×Str))),1) else (impl_Pager_isRun a_p a_at ((a_data.length:Int))).bind fun r2=>if ¬(r2=true) then some (((([]:List Str),([]:List (Int×Str)),0,false),(0,0,0,0),0,0,([]:List (Int×Str)),([]:List (Int×Str))),2) else (impl_Pager_changed_WriteRun_c1 a_p a_at a_data).bind fun r3=>some (r3.1,r3.2)
@[simp] def g95_O:(K1×Int)→TV×List Blk:=fun r=>((.tup [(.agg [(ow 1 r.1.1.1.length),(ow 2 r.1.1.2.1.length),(.int .i64 r.1.1.2.2.1),(.bool r.1.1.2.2.2),(.int .i64 r.1.2.1.1),(.int .i64 r.1.2.1.2.1),(.int .i64 r.1.2.1.2.2.1),(.int .i64 r.1.2.1.2.2.2),(.int .i64 r.1.2.2.1),(.int .i64 r.1.2.2.2.1),(ow 3 r.1.2.2.2.2.1.length),(ow 4 r.1.2.2.2.2.2.length)]),(.int .i64 r.2)]),[(.live 12 [[(ow 1 r.1.1.1.length),(ow 2 r.1.1.2.1.length),(.int .i64 r.1.1.2.2.1),(.bool r.1.1.2.2.2),(.int .i64 r.1.2.1.1),(.int .i64 r.1.2.1.2.1),(.int .i64 r.1.2.1.2.2.1),(.int .i64 r.1.2.1.2.2.2),(.int .i64 r.1.2.2.1),(.int .i64 r.1.2.2.2.1),(ow 3 r.1.2.2.2.2.1.length),(ow 4 r.1.2.2.2.2.2.length)]]),(ob 1 r.1.1.1),(ob 2 r.1.1.2.1),(ob 2 r.1.2.2.2.2.1),(ob 2 r.1.2.2.2.2.2)])
def g95_E (a:K1×Int×Str):List TV:=[(.agg [(.vs (rows a.1.1.1)),(.vs (rows a.1.1.2.1)),(.int .i64 a.1.1.2.2.1),(.bool a.1.1.2.2.2),(.int .i64 a.1.2.1.1),(.int .i64 a.1.2.1.2.1),(.int .i64 a.1.2.1.2.2.1),(.int .i64 a.1.2.1.2.2.2),(.int .i64 a.1.2.2.1),(.int .i64 a.1.2.2.2.1),(.vs (rows a.1.2.2.2.2.1)),(.vs (rows a.1.2.2.2.2.2))]),(.int .i64 a.2.1),(.str a.2.2)]
theorem g95_run (a_p:K1) (a_at:Int) (a_data:Str) :callFn (X g95_S) g95_tf (g95_E (a_p,a_at,a_data)) []=(impl_WriteRun a_p a_at a_data).map g95_O:=by
  rw [callFn_eq]
  simp (maxSteps:=2000000) (maxDischargeDepth:=8) -implicitDefEqProofs [g95_tf,impl_WriteRun,g95_E] <;> (try simp only [map_to_bind,some_elim,g95_O])
def g95_r:Rule:=RlO g95_E (fun a=>impl_WriteRun a.1 a.2.1 a.2.2) g95_O
theorem g95_ok:RuleOk Tryz.prog 17 g95_r:=ok_rlo (S:=g95_S) (tf:=g95_tf) (SysOk.on ⟨g66_ok,g55_ok,g11_ok,trivial⟩ trivial) (trE_ok (ks:=[]) Tryz.func17 (by kernel_rfl)) fun a=>g95_run a.1 a.2.1 a.2.2
@[simp] theorem g95_app (y0 y1 y2 y3 y4 y5 y6 y7 y8 y9 y10 y11 y12 y13):g95_r [(.agg [(.vs (rows y0)),(.vs (rows y1)),(.int .i64 y2),(.bool y3),(.int .i64 y4),(.int .i64 y5),(.int .i64 y6),(.int .i64 y7),(.int .i64 y8),(.int .i64 y9),(.vs (rows y10)),(.vs (rows y11))]),(.int .i64 y12),(.str y13)]=(impl_WriteRun (((y0,y1,y2,y3),(y4,y5,y6,y7),y8,y9,y10,y11)) y12 y13).map g95_O :=
  RlO_app (enc:=g95_E) (by intro a b h;simp [g95_E,Prod.ext_iff] at h ⊢;simp [h]) (((y0,y1,y2,y3),(y4,y5,y6,y7),y8,y9,y10,y11),y12,y13)
/-! impl.BlocksFor -/
def g84_tf:TFn:=⟨(sq [mk 2 (ki 0)] [0] (.seq (sq [mo 3 0,ca 4 27 [.t 3,ki 0,ki 65536],nt 5 4] [0,5] (.cond (.t 5) (.seq (.ops [mk 2 (ki 0)]) (.keep (kp [(2,0)] [] 0) .ret)) .skip)) (.trim [0] (.seq (.ops [mo 6 0,ca 7 41 [.t 6],mo 2 7]) (.keep (kp [(2,0)] [] 0) .ret))))),[.t 2]⟩
abbrev g84_S:=Sys.on [(27,g123_r),(41,g81_r)] []
def impl_BlocksFor (a_size:Int):Option (Int):=(impl_within a_size 0 65536).bind fun r1=>if ¬(r1=true) then some 0 else (impl_blocksFor a_size).bind fun r2=>some r2
@[simp] def g84_O:Int→TV×List Blk:=fun r=>((.int .i64 r),[])
def g84_E (a:Int):List TV:=[(.int .i64 a)]
theorem g84_run (a_size:Int) :callFn (X g84_S) g84_tf (g84_E a_size) []=(impl_BlocksFor a_size).map g84_O:=by
  rw [callFn_eq]
  simp (maxSteps:=2000000) (maxDischargeDepth:=8) -implicitDefEqProofs [g84_tf,impl_BlocksFor,g84_E] <;> (try simp only [map_to_bind,some_elim,g84_O])
def g84_r:Rule:=RlO g84_E (fun a=>impl_BlocksFor a) g84_O
theorem g84_ok:RuleOk Tryz.prog 18 g84_r:=ok_rlo (S:=g84_S) (tf:=g84_tf) (SysOk.on ⟨g123_ok,g81_ok,trivial⟩ trivial) (trE_ok (ks:=[]) Tryz.func18 (by kernel_rfl)) fun a=>g84_run a
@[simp] theorem g84_app (y0):g84_r [(.int .i64 y0)]=(impl_BlocksFor y0).map g84_O :=
  RlO_app (enc:=g84_E) (by intro a b h;simp [g84_E,Prod.ext_iff] at h ⊢;simp [h]) y0
/-! (impl.Disk).read -/
def impl_Disk_read (d:K0) (k:Int):Option Str:=readD d k
noncomputable def g85_r:Rule:=read_r
theorem g85_ok:RuleOk Tryz.prog 118 g85_r:=read_ok
@[simp] theorem g85_app (y0 y1 y2 y3 y4):g85_r [.agg [.vs (rows y0),.vs (rows y1),.int .i64 y2,.bool y3],.int .i64 y4]=(impl_Disk_read (y0,y1,y2,y3) y4).map (fun r=>(.str r,[])):=read_app y0 y1 y2 y3 y4
/-! (*impl.Pager).committed -/
def g23_tf:TFn:=⟨(sq [mk 4 (.c (.str []))] [0,1] (.seq (sq [mo 8 0,nk 9 8,fa 10 10 9,ld 11 10,mo 12 1,ca 13 85 [.t 11,.t 12],mo 7 13,oo 14 (.ext (.t 7) 0),oo 15 (.ext (.t 7) 1),mo 5 14,mo 6 15] [0,1,5,6] (sq [mo 16 6] [0,1,5,16] (.cond (.t 16) (.seq (.ops [mo 17 0,nk 18 17,fa 19 10 18,ld 20 19,mo 21 5,ia 22 2 20 21,fa 23 1 22,ld 24 23,mo 4 24]) (.keep (kp [(4,0)] [] 0) .ret)) .skip))) (.trim [0,1] (.seq (.ops [mo 25 0,nk 26 25,fa 27 0 26,ln 28 4 27,mo 29 1,ca 30 118 [.t 28,.t 29],mo 4 30]) (.keep (kp [(4,0)] [] 0) .ret))))),[.t 4]⟩
abbrev g23_S:=Sys.on [(85,g125_r),(118,g85_r)] []
def impl_Pager_committed (a_p:K1) (a_k:Int):Option (Str):=(impl_pageAt a_p.2.2.2.2.1 a_k).bind fun r1=>if r1.2=true then if 0≤r1.1 then (a_p.2.2.2.2.1[(r1.1).toNat]?).bind fun x2=>some x2.2 else none else (impl_Disk_read a_p.1 a_k).bind fun r3=>some r3
@[simp] def g23_O:Str→TV×List Blk:=fun r=>((.str r),[])
def g23_E (a:K1×Int×List TV):List TV:=[(.vp ((.vs (rows a.1.1.1))::(.vs (rows a.1.1.2.1))::(.int .i64 a.1.1.2.2.1)::(.bool a.1.1.2.2.2)::(.int .i64 a.1.2.1.1)::(.int .i64 a.1.2.1.2.1)::(.int .i64 a.1.2.1.2.2.1)::(.int .i64 a.1.2.1.2.2.2)::(.int .i64 a.1.2.2.1)::(.int .i64 a.1.2.2.2.1)::(.vs (rows a.1.2.2.2.2.1))::(.vs (rows a.1.2.2.2.2.2))::a.2.2)),(.int .i64 a.2.1)]
theorem g23_run (a_p:K1) (a_k:Int) (q0:List TV):callFn (X g23_S) g23_tf (g23_E (a_p,a_k,q0)) []=(impl_Pager_committed a_p a_k).map g23_O:=by
  rw [callFn_eq]
  simp (maxSteps:=2000000) (maxDischargeDepth:=8) -implicitDefEqProofs [g23_tf,impl_Pager_committed,g23_E] <;> (try simp only [map_to_bind,some_elim,g23_O])
def g23_r:Rule:=RlO g23_E (fun a=>impl_Pager_committed a.1 a.2.1) g23_O
theorem g23_ok:RuleOk Tryz.prog 86 g23_r:=ok_rlo (S:=g23_S) (tf:=g23_tf) (SysOk.on ⟨g125_ok,g85_ok,trivial⟩ trivial) (trE_ok (ks:=[]) Tryz.func86 (by kernel_rfl)) fun a=>g23_run a.1 a.2.1 a.2.2
@[simp] theorem g23_app (y0 y1 y2 y3 y4 y5 y6 y7 y8 y9 y10 y11 y12)(q0:List TV):g23_r [(.vp ((.vs (rows y0))::(.vs (rows y1))::(.int .i64 y2)::(.bool y3)::(.int .i64 y4)::(.int .i64 y5)::(.int .i64 y6)::(.int .i64 y7)::(.int .i64 y8)::(.int .i64 y9)::(.vs (rows y10))::(.vs (rows y11))::q0)),(.int .i64 y12)]=(impl_Pager_committed (((y0,y1,y2,y3),(y4,y5,y6,y7),y8,y9,y10,y11)) y12).map g23_O :=
  RlO_app (enc:=g23_E) (by intro a b h;simp [g23_E,Prod.ext_iff] at h ⊢;simp [h]) (((y0,y1,y2,y3),(y4,y5,y6,y7),y8,y9,y10,y11),y12,q0)
/-! (*impl.Pager).get -/
def g86_tf:TFn:=⟨(sq [mk 4 (.c (.str []))] [0,1] (.seq (sq [mo 8 0,nk 9 8,fa 10 11 9,ld 11 10,mo 12 1,ca 13 85 [.t 11,.t 12],mo 7 13,oo 14 (.ext (.t 7) 0),oo 15 (.ext (.t 7) 1),mo 5 14,mo 6 15] [0,1,5,6] (sq [mo 16 6] [0,1,5,16] (.cond (.t 16) (.seq (.ops [mo 17 0,nk 18 17,fa 19 11 18,ld 20 19,mo 21 5,ia 22 2 20 21,fa 23 1 22,ld 24 23,mo 4 24]) (.keep (kp [(4,0)] [] 0) .ret)) .skip))) (.trim [0,1] (.seq (.ops [mo 25 0,mo 26 1,ca 27 86 [.t 25,.t 26],mo 4 27]) (.keep (kp [(4,0)] [] 0) .ret))))),[.t 4]⟩
abbrev g86_S:=Sys.on [(85,g125_r),(86,g23_r)] []
def impl_Pager_get (a_p:K1) (a_k:Int):Option (Str):=(impl_pageAt a_p.2.2.2.2.2 a_k).bind fun r1=>if r1.2=true then if 0≤r1.1 then (a_p.2.2.2.2.2[(r1.1).toNat]?).bind fun x2=>some x2.2 else none else (impl_Pager_committed a_p a_k).bind fun r3=>some r3
@[simp] def g86_O:Str→TV×List Blk:=fun r=>((.str r),[])
def g86_E (a:K1×Int×List TV):List TV:=[(.vp ((.vs (rows a.1.1.1))::(.vs (rows a.1.1.2.1))::(.int .i64 a.1.1.2.2.1)::(.bool a.1.1.2.2.2)::(.int .i64 a.1.2.1.1)::(.int .i64 a.1.2.1.2.1)::(.int .i64 a.1.2.1.2.2.1)::(.int .i64 a.1.2.1.2.2.2)::(.int .i64 a.1.2.2.1)::(.int .i64 a.1.2.2.2.1)::(.vs (rows a.1.2.2.2.2.1))::(.vs (rows a.1.2.2.2.2.2))::a.2.2)),(.int .i64 a.2.1)]
theorem g86_run (a_p:K1) (a_k:Int) (q0:List TV):callFn (X g86_S) g86_tf (g86_E (a_p,a_k,q0)) []=(impl_Pager_get a_p a_k).map g86_O:=by
  rw [callFn_eq]
  simp (maxSteps:=2000000) (maxDischargeDepth:=8) -implicitDefEqProofs [g86_tf,impl_Pager_get,g86_E] <;> (try simp only [map_to_bind,some_elim,g86_O])
def g86_r:Rule:=RlO g86_E (fun a=>impl_Pager_get a.1 a.2.1) g86_O
theorem g86_ok:RuleOk Tryz.prog 58 g86_r:=ok_rlo (S:=g86_S) (tf:=g86_tf) (SysOk.on ⟨g125_ok,g23_ok,trivial⟩ trivial) (trE_ok (ks:=[]) Tryz.func58 (by kernel_rfl)) fun a=>g86_run a.1 a.2.1 a.2.2
@[simp] theorem g86_app (y0 y1 y2 y3 y4 y5 y6 y7 y8 y9 y10 y11 y12)(q0:List TV):g86_r [(.vp ((.vs (rows y0))::(.vs (rows y1))::(.int .i64 y2)::(.bool y3)::(.int .i64 y4)::(.int .i64 y5)::(.int .i64 y6)::(.int .i64 y7)::(.int .i64 y8)::(.int .i64 y9)::(.vs (rows y10))::(.vs (rows y11))::q0)),(.int .i64 y12)]=(impl_Pager_get (((y0,y1,y2,y3),(y4,y5,y6,y7),y8,y9,y10,y11)) y12).map g86_O :=
  RlO_app (enc:=g86_E) (by intro a b h;simp [g86_E,Prod.ext_iff] at h ⊢;simp [h]) (((y0,y1,y2,y3),(y4,y5,y6,y7),y8,y9,y10,y11),y12,q0)
/-! (*strings.Builder).copyCheck -/
noncomputable def g14_r:MRule:=copy_r 102 5
theorem g14_ok:MRuleOk Tryz.prog 91 2 g14_r:=copyCheck_ok
@[simp] theorem g14_app (l:List Bt) {n:Nat} (h:n=l.length):g14_r [.ptr 0 0 0] [.live 2 [[.bself 0 102,owb 1 n 5]],ob 1 l]=some (.tup [],[.live 2 [[.bself 0 102,owb 1 l.length 5]],ob 1 l]):=copy_app 102 5 l h
/-! (*strings.Builder).WriteString -/
def g10_tf:TFn:=⟨(sq [mk 4 (ki 0),mk 5 (.c .nili)] [0,1] (sq [mo 6 0,oo 7 (.callM 91 0 [0,1] [.t 6])] [0,1] (sq [mo 8 0,mo 9 0,nk 10 9,fa 11 1 10,ld 12 11,mo 13 1,oo 14 (.append 5 1 1 (.t 12) (.t 13)),nk 15 8,fa 16 1 15,⟨none,none,(.store 1 (.t 16) (.t 14))⟩] [1] (.seq (.ops [mo 17 1,oo 18 (.len true (.t 17)),mo 4 18,mk 5 (.c .nili)]) (.keep (kp [(4,0),(5,0)] [(0,0),(2,0)] 1) .ret))))),[.t 4,.t 5]⟩
abbrev g10_S:=Sys.on [] [((91,0),(2,g14_r))]
def strings_Builder_WriteString_o0d (a1:List Bt) (a2:Str):Option (List Bt×Int):=(appL 1 a1 ((a2.map Bt.mk))).bind fun l2=>some (l2,(a2.length:Int))
@[simp] def g10_O:(List Bt×Int)→TV×List Blk:=fun r=>((.tup [(.int .i64 r.2),.nili]),[(.live 2 [[(.bself 0 102),(owb 1 r.1.length 5)]]),(ob 1 r.1)])
abbrev g10_T:=List Bt×Str
def g10_E (a:g10_T):List TV:=[(.ptr 0 0 0),(.str a.2)]
def g10_B (a:g10_T):List Blk:=[(.live 2 [[(.bself 0 102),(owb 1 a.1.length 5)]]),(ob 1 a.1)]
theorem g10_run (a1:List Bt) (a2:Str) :callFn (X g10_S) g10_tf (g10_E (a1,a2)) (g10_B (a1,a2))=(strings_Builder_WriteString_o0d a1 a2).map g10_O:=by
  rw [callFn_eq]
  simp (maxSteps:=2000000) (maxDischargeDepth:=8) -implicitDefEqProofs [g10_tf,strings_Builder_WriteString_o0d,g10_E,g10_B] <;> (try simp only [map_to_bind,some_elim,g10_O])
def g10_r:MRule:=RmO g10_E g10_B (fun a=>strings_Builder_WriteString_o0d a.1 a.2) g10_O
theorem g10_ok:MRuleOk Tryz.prog 70 1 g10_r:=ok_rmo (S:=g10_S) (tf:=g10_tf) (SysOk.on trivial ⟨g14_ok,trivial⟩) (trE_ok (ks:=[]) Tryz.func70 (by kernel_rfl)) (by rfl) (fun _=>by simp [g10_B]) (fun _=>by simp) fun a=>g10_run a.1 a.2
@[simp] theorem g10_app (y0:List Bt)(y1){n1:Nat}(h1:n1=y0.length):g10_r [(.ptr 0 0 0),(.str y1)] [(.live 2 [[(.bself 0 102),(owb 1 n1 5)]]),(ob 1 y0)]=(strings_Builder_WriteString_o0d y0 y1).map g10_O:=by
  subst h1
  exact RmO_app (enc:=g10_E) (encB:=g10_B) (by intro a b h h2;simp [g10_E,g10_B,Prod.ext_iff] at h h2 ⊢;simp [h,h2]) (y0,y1)
/-! (*strings.Builder).String -/
def g13_tf:TFn:=⟨(sq [mk 2 (.c (.str []))] [0] (.seq (.draw [([],mo 3 0),([0],nk 4 3),([0,1],fa 5 1 4),([0,1,2],ld 6 5),([0,1,2,3],oo 7 (.sdata (.t 6))),([],mo 8 0),([5],nk 9 8),([5,6],fa 10 1 9),([5,6,7],ld 11 10),([5,6,7,8],le 12 11)] [oo 13 (.ustr 5 (.t 7) (.t 12)),mo 2 13]) (.keep (kp [(2,0)] [(0,4)] 1) .ret))),[.t 2]⟩
abbrev g13_S:=Sys.on [] []
def strings_Builder_String_of5 (a1:List Bt):Option (Str):=(strB a1).bind fun s1=>some s1
@[simp] def g13_O:Str→TV×List Blk:=fun r=>((.str r),[.dead])
abbrev g13_T:=List Bt
def g13_E (a:g13_T):List TV:=[(.ptr 0 0 0)]
def g13_B (a:g13_T):List Blk:=[(.live 2 [[(.bself 0 102),(owb 1 a.length 5)]]),(ob 1 a)]
theorem g13_run (a1:List Bt) :callFn (X g13_S) g13_tf (g13_E a1) (g13_B a1)=(strings_Builder_String_of5 a1).map g13_O:=by
  rw [callFn_eq]
  simp (maxSteps:=2000000) (maxDischargeDepth:=8) -implicitDefEqProofs [g13_tf,strings_Builder_String_of5,g13_E,g13_B] <;> (try simp only [map_to_bind,some_elim,g13_O])
def g13_r:MRule:=RmO g13_E g13_B (fun a=>strings_Builder_String_of5 a) g13_O
theorem g13_ok:MRuleOk Tryz.prog 71 1 g13_r:=ok_rmo (S:=g13_S) (tf:=g13_tf) (SysOk.on trivial trivial) (trE_ok (ks:=[[10]]) Tryz.func71 (by kernel_rfl)) (by rfl) (fun _=>by simp [g13_B]) (fun _=>by simp) fun a=>g13_run a
@[simp] theorem g13_app (y0:List Bt){n1:Nat}(h1:n1=y0.length):g13_r [(.ptr 0 0 0)] [(.live 2 [[(.bself 0 102),(owb 1 n1 5)]]),(ob 1 y0)]=(strings_Builder_String_of5 y0).map g13_O:=by
  subst h1
  exact RmO_app (enc:=g13_E) (encB:=g13_B) (by intro a b h h2;simp [g13_E,g13_B,Prod.ext_iff] at h h2 ⊢;simp [h,h2]) y0
/-! (*impl.Pager).readRun -/
def g32l1_cb:TC:=(sq [bn 12 .lss (.t 11) (.t 10)] [0,1,2,7,10,11,12] (.seq (.cond (.t 12) .skip (.keep (kp [(2,0),(7,0)] [(0,0),(1,0)] 0) (.exit 0))) (.trim [0,1,2,7,10,11] (.seq (.block 1 (sq [mo 13 11,mo 8 13] [0,1,2,7,8,10,11] (.ops [mo 14 0,mo 15 1,mo 16 8,bn 17 .add (.t 15) (.t 16),ca 18 58 [.t 14,.t 17],oo 19 (.callM 70 0 [0,1] [.t 7,.t 18])]))) (.trim [0,1,2,7,10,11] (.after (.ops [bn 20 .add (.t 11) (ki 1),mo 11 20]) (kp [(0,0),(1,0),(2,0),(7,0),(10,0),(11,0)] [(0,0),(2,0)] 0)))))))
def g32l1_c:TC:=.loop [0,1,2,7,10,11] g32l1_cb
def g32_tf:TFn:=⟨(sq [mk 6 (.c (.str []))] [0,1,2] (sq [oo 7 (.allocB 102)] [0,1,2,7] (.seq (sq [mo 9 2,ca 10 41 [.t 9],mk 11 (ki 0)] [0,1,2,7,10,11] (.block 0 (.keep (kp [(0,0),(1,0),(2,0),(7,0),(10,0),(11,0)] [(0,0),(1,0)] 0) g32l1_c))) (.trim [2,7] (.seq (.ops [oo 21 (.callM 71 0 [0,1] [.t 7]),mo 22 2,oo 23 (.sliceS (.t 21) none (some (.t 22))),mo 6 23]) (.keep (kp [(6,0)] [] 0) .ret)))))),[.t 6]⟩
abbrev g32_S:=Sys.on [(41,g81_r),(58,g86_r)] [((70,0),(1,g10_r)),((71,0),(1,g13_r))]
@[reducible,simp] def g32l1_F:(Int×List Bt)→Out:=(fun t=>(.ext 0,[(2,(.int .i64 t.1)),(7,(.ptr 0 0 0))],[(.live 2 [[(.bself 0 102),(owb 1 t.2.length 5)]]),(ob 1 t.2)]))
def impl_Pager_readRun_l1_b (v2:List Str) (v3:List (Int×Str)) (v4:Int) (v5:Bool) (v6:Int) (v7:Int) (v8:Int) (v9:Int) (v10:Int) (v11:Int) (v12:List (Int×Str)) (v13:List (Int×Str)) (v14:Int) (v15:Int) (v17:Int) (v16:List Bt) (v18:Int):Option ((List Bt×Int) ⊕ (Int×List Bt)):=if v18 < v17 then (impl_Pager_get (((v2,v3,v4,v5),(v6,v7,v8,v9),v10,v11,v12,v13)) ((IntKind.i64.wrap (v14+v18)))).bind fun r19=>(strings_Builder_WriteString_o0d v16 r19).bind fun r20=>some (.inl (r20.1,(IntKind.i64.wrap (v18+1)))) else some (.inr (v15,v16))
theorem g32l1_b_eq (q0:List TV) (v2:List Str) (v3:List (Int×Str)) (v4:Int) (v5:Bool) (v6:Int) (v7:Int) (v8:Int) (v9:Int) (v10:Int) (v11:Int) (v12:List (Int×Str)) (v13:List (Int×Str)) (v14:Int) (v15:Int) (v17:Int) (v16:List Bt) (v18:Int):X g32_S g32l1_cb (keepEnv [0,1,2,7,10,11] [(0,(.vp ((.vs (rows v2))::(.vs (rows v3))::(.int .i64 v4)::(.bool v5)::(.int .i64 v6)::(.int .i64 v7)::(.int .i64 v8)::(.int .i64 v9)::(.int .i64 v10)::(.int .i64 v11)::(.vs (rows v12))::(.vs (rows v13))::q0))),(1,(.int .i64 v14)),(2,(.int .i64 v15)),(7,(.ptr 0 0 0)),(10,(.int .i64 v17)),(11,(.int .i64 v18))]) [(.live 2 [[(.bself 0 102),(owb 1 v16.length 5)]]),(ob 1 v16)]=(impl_Pager_readRun_l1_b v2 v3 v4 v5 v6 v7 v8 v9 v10 v11 v12 v13 v14 v15 v17 v16 v18).map (Sum.elim (fun s=>(TX.nrm,[(0,(.vp ((.vs (rows v2))::(.vs (rows v3))::(.int .i64 v4)::(.bool v5)::(.int .i64 v6)::(.int .i64 v7)::(.int .i64 v8)::(.int .i64 v9)::(.int .i64 v10)::(.int .i64 v11)::(.vs (rows v12))::(.vs (rows v13))::q0))),(1,(.int .i64 v14)),(2,(.int .i64 v15)),(7,(.ptr 0 0 0)),(10,(.int .i64 v17)),(11,(.int .i64 s.2))],[(.live 2 [[(.bself 0 102),(owb 1 s.1.length 5)]]),(ob 1 s.1)])) g32l1_F):=by
  simp (maxSteps:=2000000) (maxDischargeDepth:=8) -implicitDefEqProofs [g32l1_cb,impl_Pager_readRun_l1_b] <;> (try simp only [map_to_bind,some_elim,g32l1_F])
def impl_Pager_readRun_l1 (v2:List Str) (v3:List (Int×Str)) (v4:Int) (v5:Bool) (v6:Int) (v7:Int) (v8:Int) (v9:Int) (v10:Int) (v11:Int) (v12:List (Int×Str)) (v13:List (Int×Str)) (v14:Int) (v15:Int) (v17:Int) (s:List Bt×Int):Option (Int×List Bt):=loopO (fun s=>impl_Pager_readRun_l1_b v2 v3 v4 v5 v6 v7 v8 v9 v10 v11 v12 v13 v14 v15 v17 s.1 s.2) s
@[simp] theorem g32l1_eq (q0:List TV)(y0 y1 y2 y3 y4 y5 y6 y7 y8 y9 y10 y11 y12 y13)(y14:List Bt)(y15 y16){n1:Nat}(h1:n1=y14.length):X g32_S g32l1_c [(0,(.vp ((.vs (rows y0))::(.vs (rows y1))::(.int .i64 y2)::(.bool y3)::(.int .i64 y4)::(.int .i64 y5)::(.int .i64 y6)::(.int .i64 y7)::(.int .i64 y8)::(.int .i64 y9)::(.vs (rows y10))::(.vs (rows y11))::q0))),(1,(.int .i64 y12)),(2,(.int .i64 y13)),(7,(.ptr 0 0 0)),(10,(.int .i64 y15)),(11,(.int .i64 y16))] [(.live 2 [[(.bself 0 102),(owb 1 n1 5)]]),(ob 1 y14)]=(impl_Pager_readRun_l1 y0 y1 y2 y3 y4 y5 y6 y7 y8 y9 y10 y11 y12 y13 y15 (y14,y16)).map g32l1_F:=by
  subst h1
  exact loop_X _ _ _ _ (by intro r;first | (simp;done) | (rcases r with r | r <;> simp;done) | (rcases r with r | r | r <;> simp;done) | (rcases r with r | r | r | r <;> simp)) (fun s=>g32l1_b_eq q0 y0 y1 y2 y3 y4 y5 y6 y7 y8 y9 y10 y11 y12 y13 y15 s.1 s.2) (y14,y16)
def impl_Pager_readRun (a_p:K1) (a_at:Int) (a_size:Int):Option (Str):=(impl_blocksFor a_size).bind fun r1=>(impl_Pager_readRun_l1 a_p.1.1 a_p.1.2.1 a_p.1.2.2.1 a_p.1.2.2.2 a_p.2.1.1 a_p.2.1.2.1 a_p.2.1.2.2.1 a_p.2.1.2.2.2 a_p.2.2.1 a_p.2.2.2.1 a_p.2.2.2.2.1 a_p.2.2.2.2.2 a_at a_size r1 ((nilB,0))).bind fun r21=>(strings_Builder_String_of5 r21.2).bind fun r22=>(subL r22 none (some r21.1)).bind fun s23=>some s23
@[simp] def g32_O:Str→TV×List Blk:=fun r=>((.str r),[])
def g32_E (a:K1×Int×Int×List TV):List TV:=[(.vp ((.vs (rows a.1.1.1))::(.vs (rows a.1.1.2.1))::(.int .i64 a.1.1.2.2.1)::(.bool a.1.1.2.2.2)::(.int .i64 a.1.2.1.1)::(.int .i64 a.1.2.1.2.1)::(.int .i64 a.1.2.1.2.2.1)::(.int .i64 a.1.2.1.2.2.2)::(.int .i64 a.1.2.2.1)::(.int .i64 a.1.2.2.2.1)::(.vs (rows a.1.2.2.2.2.1))::(.vs (rows a.1.2.2.2.2.2))::a.2.2.2)),(.int .i64 a.2.1),(.int .i64 a.2.2.1)]
theorem g32_run (a_p:K1) (a_at:Int) (a_size:Int) (q0:List TV):callFn (X g32_S) g32_tf (g32_E (a_p,a_at,a_size,q0)) []=(impl_Pager_readRun a_p a_at a_size).map g32_O:=by
  rw [callFn_eq]
  simp (maxSteps:=2000000) (maxDischargeDepth:=8) -implicitDefEqProofs [g32_tf,impl_Pager_readRun,g32_E] <;> (try simp only [map_to_bind,some_elim,g32_O])
def g32_r:Rule:=RlO g32_E (fun a=>impl_Pager_readRun a.1 a.2.1 a.2.2.1) g32_O
theorem g32_ok:RuleOk Tryz.prog 42 g32_r:=ok_rlo (S:=g32_S) (tf:=g32_tf) (SysOk.on ⟨g81_ok,g86_ok,trivial⟩ ⟨g10_ok,g13_ok,trivial⟩) (trE_ok (ks:=[[0,1,2,7,10,11]]) Tryz.func42 (by kernel_rfl)) fun a=>g32_run a.1 a.2.1 a.2.2.1 a.2.2.2
@[simp] theorem g32_app (y0 y1 y2 y3 y4 y5 y6 y7 y8 y9 y10 y11 y12 y13)(q0:List TV):g32_r [(.vp ((.vs (rows y0))::(.vs (rows y1))::(.int .i64 y2)::(.bool y3)::(.int .i64 y4)::(.int .i64 y5)::(.int .i64 y6)::(.int .i64 y7)::(.int .i64 y8)::(.int .i64 y9)::(.vs (rows y10))::(.vs (rows y11))::q0)),(.int .i64 y12),(.int .i64 y13)]=(impl_Pager_readRun (((y0,y1,y2,y3),(y4,y5,y6,y7),y8,y9,y10,y11)) y12 y13).map g32_O :=
  RlO_app (enc:=g32_E) (by intro a b h;simp [g32_E,Prod.ext_iff] at h ⊢;simp [h]) (((y0,y1,y2,y3),(y4,y5,y6,y7),y8,y9,y10,y11),y12,y13,q0)
/-! impl.ReadRun -/
def g115_tf:TFn:=⟨(sq [bx 3 0,mk 6 (.c (.str [])),mk 7 (ki 0)] [1,2,3] (.seq (.block 0 (sq [ln 9 12 3,ca 10 24 [.t 9],nt 11 10,mo 8 11] [1,2,3,8] (.cond (.t 8) (.seq (.ops [mk 6 (.c (.str [])),mk 7 (ki 1)]) (.keep (kp [(6,0),(7,0)] [] 0) .ret)) (sq [mo 13 1,mo 14 2,ca 15 38 [.t 3,.t 13,.t 14],nt 16 15,mo 12 16] [1,2,3,12] (.cond (.t 12) (.seq (.ops [mk 6 (.c (.str [])),mk 7 (ki 2)]) (.keep (kp [(6,0),(7,0)] [] 0) .ret)) .skip))))) (.trim [1,2,3] (.seq (.ops [mo 17 1,mo 18 2,ca 19 42 [.t 3,.t 17,.t 18],mo 6 19,mk 7 (ki 0)]) (.keep (kp [(6,0),(7,0)] [] 0) .ret))))),[.t 6,.t 7]⟩
abbrev g115_S:=Sys.on [(24,g66_r),(38,g55_r),(42,g32_r)] []
def impl_ReadRun (a_p:K1) (a_at:Int) (a_size:Int):Option (Str×Int):=(impl_ValidPager a_p).bind fun r1=>if ¬(r1=true) then some (([]:Str),1) else (impl_Pager_isRun a_p a_at a_size).bind fun r2=>if ¬(r2=true) then some (([]:Str),2) else (impl_Pager_readRun a_p a_at a_size).bind fun r3=>some (r3,0)
@[simp] def g115_O:(Str×Int)→TV×List Blk:=fun r=>((.tup [(.str r.1),(.int .i64 r.2)]),[])
def g115_E (a:K1×Int×Int):List TV:=[(.agg [(.vs (rows a.1.1.1)),(.vs (rows a.1.1.2.1)),(.int .i64 a.1.1.2.2.1),(.bool a.1.1.2.2.2),(.int .i64 a.1.2.1.1),(.int .i64 a.1.2.1.2.1),(.int .i64 a.1.2.1.2.2.1),(.int .i64 a.1.2.1.2.2.2),(.int .i64 a.1.2.2.1),(.int .i64 a.1.2.2.2.1),(.vs (rows a.1.2.2.2.2.1)),(.vs (rows a.1.2.2.2.2.2))]),(.int .i64 a.2.1),(.int .i64 a.2.2)]
theorem g115_run (a_p:K1) (a_at:Int) (a_size:Int) :callFn (X g115_S) g115_tf (g115_E (a_p,a_at,a_size)) []=(impl_ReadRun a_p a_at a_size).map g115_O:=by
  rw [callFn_eq]
  simp (maxSteps:=2000000) (maxDischargeDepth:=8) -implicitDefEqProofs [g115_tf,impl_ReadRun,g115_E] <;> (try simp only [map_to_bind,some_elim,g115_O])
def g115_r:Rule:=RlO g115_E (fun a=>impl_ReadRun a.1 a.2.1 a.2.2) g115_O
theorem g115_ok:RuleOk Tryz.prog 19 g115_r:=ok_rlo (S:=g115_S) (tf:=g115_tf) (SysOk.on ⟨g66_ok,g55_ok,g32_ok,trivial⟩ trivial) (trE_ok (ks:=[]) Tryz.func19 (by kernel_rfl)) fun a=>g115_run a.1 a.2.1 a.2.2
@[simp] theorem g115_app (y0 y1 y2 y3 y4 y5 y6 y7 y8 y9 y10 y11 y12 y13):g115_r [(.agg [(.vs (rows y0)),(.vs (rows y1)),(.int .i64 y2),(.bool y3),(.int .i64 y4),(.int .i64 y5),(.int .i64 y6),(.int .i64 y7),(.int .i64 y8),(.int .i64 y9),(.vs (rows y10)),(.vs (rows y11))]),(.int .i64 y12),(.int .i64 y13)]=(impl_ReadRun (((y0,y1,y2,y3),(y4,y5,y6,y7),y8,y9,y10,y11)) y12 y13).map g115_O :=
  RlO_app (enc:=g115_E) (by intro a b h;simp [g115_E,Prod.ext_iff] at h ⊢;simp [h]) (((y0,y1,y2,y3),(y4,y5,y6,y7),y8,y9,y10,y11),y12,y13)
/-! impl.PadBytes -/
def g96_tf:TFn:=⟨(sq [mk 4 (.c (.str [])),mk 5 (kb false)] [0,1] (.seq (sq [mo 6 0,oo 7 (.len true (.t 6)),mo 8 1,bn 9 .gtr (.t 7) (.t 8),mo 10 9,⟨(some 11),(some (10,false)),(.mv (.t 1))⟩,⟨(some 12),(some (10,false)),(.bin .num .gtr (.t 11) (ki 65536))⟩,pk 13 (.t 10) (kb true) (.t 12)] [0,1,13] (.cond (.t 13) (.seq (.ops [mk 4 (.c (.str [])),mk 5 (kb false)]) (.keep (kp [(4,0),(5,0)] [] 0) .ret)) .skip)) (.trim [0,1] (.seq (.ops [mo 14 0,mo 15 1,mo 16 0,oo 17 (.len true (.t 16)),bn 18 .sub (.t 15) (.t 17),ca 19 43 [.t 18],oo 20 (.bin .str .add (.t 14) (.t 19)),mo 4 20,mk 5 (kb true)]) (.keep (kp [(4,0),(5,0)] [] 0) .ret))))),[.t 4,.t 5]⟩
abbrev g96_S:=Sys.on [(43,g128_r)] []
def impl_PadBytes (a_s:Str) (a_n:Int):Option (Str×Bool):=if (a_s.length:Int) > a_n then some (([]:Str),false) else if a_n > 65536 then some (([]:Str),false) else (impl_zeros ((IntKind.i64.wrap (a_n - ((a_s.length:Int)))))).bind fun r1=>if a_s.length+r1.length≤9223372036854775807 then some ((a_s++r1),true) else none
@[simp] def g96_O:(Str×Bool)→TV×List Blk:=fun r=>((.tup [(.str r.1),(.bool r.2)]),[])
def g96_E (a:Str×Int):List TV:=[(.str a.1),(.int .i64 a.2)]
theorem g96_run (a_s:Str) (a_n:Int) :callFn (X g96_S) g96_tf (g96_E (a_s,a_n)) []=(impl_PadBytes a_s a_n).map g96_O:=by
  rw [callFn_eq]
  simp (maxSteps:=2000000) (maxDischargeDepth:=8) -implicitDefEqProofs [g96_tf,impl_PadBytes,g96_E] <;> (try simp only [map_to_bind,some_elim,g96_O])
def g96_r:Rule:=RlO g96_E (fun a=>impl_PadBytes a.1 a.2) g96_O
theorem g96_ok:RuleOk Tryz.prog 20 g96_r:=ok_rlo (S:=g96_S) (tf:=g96_tf) (SysOk.on ⟨g128_ok,trivial⟩ trivial) (trE_ok (ks:=[]) Tryz.func20 (by kernel_rfl)) fun a=>g96_run a.1 a.2
@[simp] theorem g96_app (y0 y1):g96_r [(.str y0),(.int .i64 y1)]=(impl_PadBytes y0 y1).map g96_O :=
  RlO_app (enc:=g96_E) (by intro a b h;simp [g96_E,Prod.ext_iff] at h ⊢;simp [h]) (y0,y1)
/-! laws.FnSpaceRuns -/
def g57_tf:TFn:=⟨(sq [mk 2 (kb false)] [0] (.seq (sq [mo 15 0,ca 16 6 [.t 15]] [0,16] (.cond (.t 16) (.seq (.ops [mk 2 (kb true)]) (.keep (kp [(2,0)] [] 0) .ret)) .skip)) (.trim [0] (sq [mo 18 0,ca 19 16 [.t 18],mo 17 19,oo 20 (.ext (.t 17) 0),oo 21 (.ext (.t 17) 1),oo 22 (.ext (.t 17) 2),oo 3 (.alloc [.nils,.nils,(.int .i64 0),(.bool false),(.int .i64 0),(.int .i64 0),(.int .i64 0),(.int .i64 0),(.int .i64 0),(.int .i64 0),.nils,.nils]),⟨none,none,(.store 12 (.t 3) (.t 20))⟩,mo 4 21,mo 5 22] [3,4,5] (sq [ln 24 12 3,mo 25 4,mo 26 5,ca 27 17 [.t 24,.t 25,.t 26],mo 23 27,oo 28 (.ext (.t 23) 0),oo 29 (.ext (.t 23) 1),oo 6 (.alloc [.nils,.nils,(.int .i64 0),(.bool false),(.int .i64 0),(.int .i64 0),(.int .i64 0),(.int .i64 0),(.int .i64 0),(.int .i64 0),.nils,.nils]),⟨none,none,(.store 12 (.t 6) (.t 28))⟩,mo 7 29] [4,5,6,7] (.seq (sq [mo 30 7,bn 31 .neq (.t 30) (ki 0)] [4,5,6,31] (.cond (.t 31) (.seq (.ops [mk 2 (kb true)]) (.keep (kp [(2,0)] [] 0) .ret)) .skip)) (.trim [4,5,6] (sq [mo 32 5,oo 33 (.len true (.t 32)),ca 34 18 [.t 33],bn 35 .mul (.t 34) (ki 64),mo 8 35] [4,5,6,8] (sq [ln 37 12 6,mo 38 4,mo 39 5,oo 40 (.len true (.t 39)),ca 41 19 [.t 37,.t 38,.t 40],mo 36 41,oo 42 (.ext (.t 36) 0),oo 43 (.ext (.t 36) 1),mo 9 42,mo 10 43] [4,5,6,8,9,10] (sq [ln 45 12 6,mo 46 4,mo 47 8,ca 48 19 [.t 45,.t 46,.t 47],mo 44 48,oo 49 (.ext (.t 44) 0),oo 50 (.ext (.t 44) 1),mo 11 49,mo 12 50] [5,8,9,10,11,12] (sq [mo 52 5,mo 53 8,ca 54 20 [.t 52,.t 53],mo 51 54,oo 55 (.ext (.t 51) 0),oo 56 (.ext (.t 51) 1),mo 13 55,mo 14 56] [5,9,10,11,12,13,14] (.seq (.after (.ops [mo 57 10,bn 58 .eql (.t 57) (ki 0),mo 59 58,⟨(some 60),(some (59,true)),(.mv (.t 12))⟩,⟨(some 61),(some (59,true)),(.bin .num .eql (.t 60) (ki 0))⟩,pk 62 (.t 59) (.t 61) (kb false),mo 63 62,⟨(some 64),(some (63,true)),(.mv (.t 14))⟩,pk 65 (.t 63) (.t 64) (kb false),mo 66 65,⟨(some 67),(some (66,true)),(.mv (.t 9))⟩,⟨(some 68),(some (66,true)),(.mv (.t 5))⟩,⟨(some 69),(some (66,true)),(.bin .str .eql (.t 67) (.t 68))⟩,pk 70 (.t 66) (.t 69) (kb false),mo 71 70,⟨(some 72),(some (71,true)),(.mv (.t 11))⟩,⟨(some 73),(some (71,true)),(.mv (.t 13))⟩,⟨(some 74),(some (71,true)),(.bin .str .eql (.t 72) (.t 73))⟩,pk 75 (.t 71) (.t 74) (kb false),mo 2 75]) (kp [(2,0)] [] 0)) (.keep (kp [(2,0)] [] 0) .ret))))))))))))),[.t 2]⟩
abbrev g57_S:=Sys.on [(6,g97_r),(16,g42_r),(17,g95_r),(18,g84_r),(19,g115_r),(20,g96_r)] []
def laws_FnSpaceRuns (a_code:List Bt):Option (Bool):=(laws_b10Long a_code).bind fun r1=>if r1=true then some true else (spec_DrawWriteRun a_code).bind fun r2=>(impl_WriteRun r2.1 r2.2.1 r2.2.2).bind fun r3=>if ¬(r3.2=0) then some true else (impl_BlocksFor ((r2.2.2.length:Int))).bind fun r4=>(impl_ReadRun r3.1 r2.2.1 ((r2.2.2.length:Int))).bind fun r5=>(impl_ReadRun r3.1 r2.2.1 ((IntKind.i64.wrap (r4 * 64)))).bind fun r6=>(impl_PadBytes r2.2.2 ((IntKind.i64.wrap (r4 * 64)))).bind fun r7=>if r5.2=0 then if r6.2=0 then if r7.2=true then if r5.1=r2.2.2 then some ((decide (r6.1=r7.1))) else some false else some false else some false else some false
@[simp] def g57_O:Bool→TV×List Blk:=fun r=>((.bool r),[])
def g57_E (a:List Bt):List TV:=[(.vs (rows a))]
theorem g57_run (a_code:List Bt) :callFn (X g57_S) g57_tf (g57_E a_code) []=(laws_FnSpaceRuns a_code).map g57_O:=by
  rw [callFn_eq]
  simp (maxSteps:=2000000) (maxDischargeDepth:=8) -implicitDefEqProofs [g57_tf,laws_FnSpaceRuns,g57_E] <;> (try simp only [map_to_bind,some_elim,g57_O])
def laws_FnSpaceRuns_r:Rule:=RlO g57_E (fun a=>laws_FnSpaceRuns a) g57_O
theorem laws_FnSpaceRuns_ok:RuleOk Tryz.prog 5 laws_FnSpaceRuns_r:=ok_rlo (S:=g57_S) (tf:=g57_tf) (SysOk.on ⟨g97_ok,g42_ok,g95_ok,g84_ok,g115_ok,g96_ok,trivial⟩ trivial) (trE_ok (ks:=[]) Tryz.func5 (by kernel_rfl)) fun a=>g57_run a
@[simp] theorem laws_FnSpaceRuns_app (y0):laws_FnSpaceRuns_r [(.vs (rows y0))]=(laws_FnSpaceRuns y0).map g57_O :=
  RlO_app (enc:=g57_E) (by intro a b h;simp [g57_E,Prod.ext_iff] at h ⊢;simp [h]) y0
end
end Go.Proofs.TM
