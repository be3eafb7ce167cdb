/- Functions of the program, as functions of their data: written by program. -/
import Derived.Test.YtljphigfgffeeaaGreatDoorTCk
import Derived.Test.YtljphigfgffeeaaGreatDoorTReadR
import Derived.Test.YtljphigfgffeeaaGreatDoorTIns
import Derived.Test.YtljphigfgffeeaaGreatDoorTLib
import Derived.Test.YtljphigfgffeeaaGreatDoorProg
import Derived.KernelRfl
namespace Go.Proofs.TM
open Go Go.Proofs
set_option linter.unusedVariables false
set_option linter.unusedSimpArgs false
set_option maxHeartbeats 1000000
attribute [-simp] Option.map_bind strV_some
attribute [simp] guardOn_bool sA_bslice Function.comp_def
noncomputable section
abbrev K1:=(List Str × List (Int × Str) × Int × Bool) × (Int × Int × Int × Int) × Int × Int × List (Int × Str) × List (Int × Str)
abbrev K0:=List Str × List (Int × Str) × Int × Bool
abbrev K2:=Int × Int × List (Int × Int × Str)
/-! laws.szStringS -/
def g71l1_cb:TC:=(.seq (sq [mo 12 5,mo 13 0,le 14 13,bn 15 .lss (.t 12) (.t 14)] [0,1,5,15] (.cond (.t 15) .skip (.keep (kp [(1,0)] [] 0) (.exit 0)))) (.trim [0,1,5] (.seq (.block 1 (sq [mo 18 1,mo 19 0,mo 20 5,ia 21 1 19 20,ld 22 21,oo 23 (.len true (.t 22)),bn 24 .sub (.t 18) (.t 23),mo 1 24] [0,1,5] (sq [mo 25 1,bn 26 .lss (.t 25) (ki 0)] [0,1,5,26] (.cond (.t 26) (.seq (.ops [mk 4 (ki (-1))]) (.keep (kp [(4,0)] [] 0) .ret)) .skip)))) (.trim [0,1,5] (.after (.ops [mo 16 5,bn 17 .add (.t 16) (ki 1),mo 5 17]) (kp [(0,0),(1,0),(5,0)] [] 0))))))
def g71l1_c:TC:=.loop [0,1,5] g71l1_cb
def g71_tf:TFn:=⟨(sq [mk 4 (ki 0)] [0,1] (sq [mo 6 1,mo 7 0,le 8 7,bn 9 .sub (.t 6) (.t 8),mo 1 9] [0,1] (.seq (sq [mo 10 1,bn 11 .lss (.t 10) (ki 0)] [0,1,11] (.cond (.t 11) (.seq (.ops [mk 4 (ki (-1))]) (.keep (kp [(4,0)] [] 0) .ret)) .skip)) (.trim [0,1] (.seq (sq [mk 5 (ki 0)] [0,1,5] (.block 0 (.keep (kp [(0,0),(1,0),(5,0)] [] 0) g71l1_c))) (.trim [1] (.seq (.ops [mo 27 1,mo 4 27]) (.keep (kp [(4,0)] [] 0) .ret)))))))),[.t 4]⟩
abbrev g71_S:=Sys.on [] []
@[reducible,simp] def g71l1_F:((Int) ⊕ (Int)) → Out:=(Sum.elim (fun t=>(.ext 0,[(1,(.int .i64 t))],[])) (fun t=>(.ret,[(4,(.int .i64 t))],[])))
def laws_szStringS_l1_b (v1:List Str) (v2:Int) (v3:Int):Option ((Int × Int) ⊕ ((Int) ⊕ (Int))):=if v3 < (v1.length:Int) then if 0 ≤ v3 then (v1[(v3).toNat]?).bind fun x4=>if (IntKind.i64.wrap (v2 - ((x4.length:Int)))) < 0 then some (.inr (.inr ((-1)))) else some (.inl ((IntKind.i64.wrap (v2 - ((x4.length:Int)))),(IntKind.i64.wrap (v3 + 1)))) else none else some (.inr (.inl v2))
theorem g71l1_b_eq  (v1:List Str) (v2:Int) (v3:Int):X g71_S g71l1_cb (keepEnv [0,1,5] [(0,(.vs (rows v1))),(1,(.int .i64 v2)),(5,(.int .i64 v3))]) [] = (laws_szStringS_l1_b v1 v2 v3).map (Sum.elim (fun s=>(TX.nrm,[(0,(.vs (rows v1))),(1,(.int .i64 s.1)),(5,(.int .i64 s.2))],[])) g71l1_F):=by
  simp (maxSteps:=2000000) (maxDischargeDepth:=8) -implicitDefEqProofs [g71l1_cb,laws_szStringS_l1_b] <;> (try simp only [map_to_bind,some_elim,g71l1_F])
def laws_szStringS_l1 (v1:List Str) (s:Int × Int):Option ((Int) ⊕ (Int)):=loopO (fun s=>laws_szStringS_l1_b v1 s.1 s.2) s
@[simp] theorem g71l1_eq (y0 y1 y2):X g71_S g71l1_c [(0,(.vs (rows y0))),(1,(.int .i64 y1)),(5,(.int .i64 y2))] [] = (laws_szStringS_l1 y0 (y1,y2)).map g71l1_F:=by
  exact loop_X _ _ _ _ (by intro r; first | (simp; done) | (rcases r with r | r <;> simp; done) | (rcases r with r | r | r <;> simp; done) | (rcases r with r | r | r | r <;> simp)) (fun s=>g71l1_b_eq  y0 s.1 s.2) (y1,y2)
def laws_szStringS (a_a:List Str) (a_left:Int):Option (Int):=if (IntKind.i64.wrap (a_left - ((a_a.length:Int)))) < 0 then some ((-1)) else (laws_szStringS_l1 a_a (((IntKind.i64.wrap (a_left - ((a_a.length:Int)))),0))).bind fun r5=>Sum.elim (fun u6=>some u6) (fun u7=>some u7) r5
@[simp] def g71_O:Int → TV × List Blk:=fun r=>((.int .i64 r),[])
def g71_E (a:List Str × Int):List TV:=[(.vs (rows a.1)),(.int .i64 a.2)]
theorem g71_run (a_a:List Str) (a_left:Int) :callFn (X g71_S) g71_tf (g71_E (a_a,a_left)) [] = (laws_szStringS a_a a_left).map g71_O:=by
  rw [callFn_eq]
  simp (maxSteps:=2000000) (maxDischargeDepth:=8) -implicitDefEqProofs [g71_tf,laws_szStringS,g71_E] <;> (try simp only [map_to_bind,some_elim,g71_O])
def g71_r:Rule:=RlO g71_E (fun a=>laws_szStringS a.1 a.2) g71_O
theorem g71_ok:RuleOk Tryz.prog 49 g71_r:=ok_rlo (S:=g71_S) (tf:=g71_tf) (SysOk.on trivial trivial) (trE_ok (ks:=[[0,1,5]]) Tryz.func49 (by kernel_rfl)) fun a=>g71_run a.1 a.2
@[simp] theorem g71_app (y0 y1):g71_r [(.vs (rows y0)),(.int .i64 y1)] = (laws_szStringS y0 y1).map g71_O :=
  RlO_app (enc:=g71_E) (by intro a b h; simp [g71_E,Prod.ext_iff] at h ⊢; simp [h]) (y0,y1)
/-! laws.szPut -/
def g133_tf:TFn:=⟨(sq [bx 2 0,mk 4 (ki 0)] [1,2] (sq [mo 5 1,fa 6 1 2,ld 7 6,oo 8 (.len true (.t 7)),bn 9 .sub (.t 5) (.t 8),mo 1 9] [1] (.seq (sq [mo 10 1,bn 11 .lss (.t 10) (ki 0)] [1,11] (.cond (.t 11) (.seq (.ops [mk 4 (ki (-1))]) (.keep (kp [(4,0)] [] 0) .ret)) .skip)) (.trim [1] (.seq (.ops [mo 12 1,mo 4 12]) (.keep (kp [(4,0)] [] 0) .ret)))))),[.t 4]⟩
abbrev g133_S:=Sys.on [] []
def laws_szPut (a_a:Int × Str) (a_left:Int):Option (Int):=if (IntKind.i64.wrap (a_left - ((a_a.2.length:Int)))) < 0 then some ((-1)) else some ((IntKind.i64.wrap (a_left - ((a_a.2.length:Int)))))
@[simp] def g133_O:Int → TV × List Blk:=fun r=>((.int .i64 r),[])
def g133_E (a:(Int × Str) × Int):List TV:=[(.agg [(.int .i64 a.1.1),(.str a.1.2)]),(.int .i64 a.2)]
theorem g133_run (a_a:Int × Str) (a_left:Int) :callFn (X g133_S) g133_tf (g133_E (a_a,a_left)) [] = (laws_szPut a_a a_left).map g133_O:=by
  rw [callFn_eq]
  simp (maxSteps:=2000000) (maxDischargeDepth:=8) -implicitDefEqProofs [g133_tf,laws_szPut,g133_E] <;> (try simp only [map_to_bind,some_elim,g133_O])
def g133_r:Rule:=RlO g133_E (fun a=>laws_szPut a.1 a.2) g133_O
theorem g133_ok:RuleOk Tryz.prog 93 g133_r:=ok_rlo (S:=g133_S) (tf:=g133_tf) (SysOk.on trivial trivial) (trE_ok (ks:=[]) Tryz.func93 (by kernel_rfl)) fun a=>g133_run a.1 a.2
@[simp] theorem g133_app (y0 y1 y2):g133_r [(.agg [(.int .i64 y0),(.str y1)]),(.int .i64 y2)] = (laws_szPut ((y0,y1)) y2).map g133_O :=
  RlO_app (enc:=g133_E) (by intro a b h; simp [g133_E,Prod.ext_iff] at h ⊢; simp [h]) ((y0,y1),y2)
/-! laws.szPutS -/
def g116l1_cb:TC:=(.seq (sq [mo 12 5,mo 13 0,le 14 13,bn 15 .lss (.t 12) (.t 14)] [0,1,5,15] (.cond (.t 15) .skip (.keep (kp [(1,0)] [] 0) (.exit 0)))) (.trim [0,1,5] (.seq (.block 1 (sq [mo 18 0,mo 19 5,ia 20 2 18 19,ln 21 2 20,mo 22 1,ca 23 93 [.t 21,.t 22],mo 1 23] [0,1,5] (sq [mo 24 1,bn 25 .lss (.t 24) (ki 0)] [0,1,5,25] (.cond (.t 25) (.seq (.ops [mk 4 (ki (-1))]) (.keep (kp [(4,0)] [] 0) .ret)) .skip)))) (.trim [0,1,5] (.after (.ops [mo 16 5,bn 17 .add (.t 16) (ki 1),mo 5 17]) (kp [(0,0),(1,0),(5,0)] [] 0))))))
def g116l1_c:TC:=.loop [0,1,5] g116l1_cb
def g116_tf:TFn:=⟨(sq [mk 4 (ki 0)] [0,1] (sq [mo 6 1,mo 7 0,le 8 7,bn 9 .sub (.t 6) (.t 8),mo 1 9] [0,1] (.seq (sq [mo 10 1,bn 11 .lss (.t 10) (ki 0)] [0,1,11] (.cond (.t 11) (.seq (.ops [mk 4 (ki (-1))]) (.keep (kp [(4,0)] [] 0) .ret)) .skip)) (.trim [0,1] (.seq (sq [mk 5 (ki 0)] [0,1,5] (.block 0 (.keep (kp [(0,0),(1,0),(5,0)] [] 0) g116l1_c))) (.trim [1] (.seq (.ops [mo 26 1,mo 4 26]) (.keep (kp [(4,0)] [] 0) .ret)))))))),[.t 4]⟩
abbrev g116_S:=Sys.on [(93,g133_r)] []
@[reducible,simp] def g116l1_F:((Int) ⊕ (Int)) → Out:=(Sum.elim (fun t=>(.ext 0,[(1,(.int .i64 t))],[])) (fun t=>(.ret,[(4,(.int .i64 t))],[])))
def laws_szPutS_l1_b (v1:List (Int × Str)) (v2:Int) (v3:Int):Option ((Int × Int) ⊕ ((Int) ⊕ (Int))):=if v3 < (v1.length:Int) then if 0 ≤ v3 then (v1[(v3).toNat]?).bind fun x4=>(laws_szPut x4 v2).bind fun r5=>if r5 < 0 then some (.inr (.inr ((-1)))) else some (.inl (r5,(IntKind.i64.wrap (v3 + 1)))) else none else some (.inr (.inl v2))
theorem g116l1_b_eq  (v1:List (Int × Str)) (v2:Int) (v3:Int):X g116_S g116l1_cb (keepEnv [0,1,5] [(0,(.vs (rows v1))),(1,(.int .i64 v2)),(5,(.int .i64 v3))]) [] = (laws_szPutS_l1_b v1 v2 v3).map (Sum.elim (fun s=>(TX.nrm,[(0,(.vs (rows v1))),(1,(.int .i64 s.1)),(5,(.int .i64 s.2))],[])) g116l1_F):=by
  simp (maxSteps:=2000000) (maxDischargeDepth:=8) -implicitDefEqProofs [g116l1_cb,laws_szPutS_l1_b] <;> (try simp only [map_to_bind,some_elim,g116l1_F])
def laws_szPutS_l1 (v1:List (Int × Str)) (s:Int × Int):Option ((Int) ⊕ (Int)):=loopO (fun s=>laws_szPutS_l1_b v1 s.1 s.2) s
@[simp] theorem g116l1_eq (y0 y1 y2):X g116_S g116l1_c [(0,(.vs (rows y0))),(1,(.int .i64 y1)),(5,(.int .i64 y2))] [] = (laws_szPutS_l1 y0 (y1,y2)).map g116l1_F:=by
  exact loop_X _ _ _ _ (by intro r; first | (simp; done) | (rcases r with r | r <;> simp; done) | (rcases r with r | r | r <;> simp; done) | (rcases r with r | r | r | r <;> simp)) (fun s=>g116l1_b_eq  y0 s.1 s.2) (y1,y2)
def laws_szPutS (a_a:List (Int × Str)) (a_left:Int):Option (Int):=if (IntKind.i64.wrap (a_left - ((a_a.length:Int)))) < 0 then some ((-1)) else (laws_szPutS_l1 a_a (((IntKind.i64.wrap (a_left - ((a_a.length:Int)))),0))).bind fun r6=>Sum.elim (fun u7=>some u7) (fun u8=>some u8) r6
@[simp] def g116_O:Int → TV × List Blk:=fun r=>((.int .i64 r),[])
def g116_E (a:(List (Int × Str)) × Int):List TV:=[(.vs (rows a.1)),(.int .i64 a.2)]
theorem g116_run (a_a:List (Int × Str)) (a_left:Int) :callFn (X g116_S) g116_tf (g116_E (a_a,a_left)) [] = (laws_szPutS a_a a_left).map g116_O:=by
  rw [callFn_eq]
  simp (maxSteps:=2000000) (maxDischargeDepth:=8) -implicitDefEqProofs [g116_tf,laws_szPutS,g116_E] <;> (try simp only [map_to_bind,some_elim,g116_O])
def g116_r:Rule:=RlO g116_E (fun a=>laws_szPutS a.1 a.2) g116_O
theorem g116_ok:RuleOk Tryz.prog 50 g116_r:=ok_rlo (S:=g116_S) (tf:=g116_tf) (SysOk.on ⟨g133_ok,trivial⟩ trivial) (trE_ok (ks:=[[0,1,5]]) Tryz.func50 (by kernel_rfl)) fun a=>g116_run a.1 a.2
@[simp] theorem g116_app (y0 y1):g116_r [(.vs (rows y0)),(.int .i64 y1)] = (laws_szPutS y0 y1).map g116_O :=
  RlO_app (enc:=g116_E) (by intro a b h; simp [g116_E,Prod.ext_iff] at h ⊢; simp [h]) (y0,y1)
/-! laws.szDisk -/
def g117_tf:TFn:=⟨(sq [bx 2 0,mk 4 (ki 0)] [1,2] (sq [fa 5 0 2,ld 6 5,mo 7 1,ca 8 49 [.t 6,.t 7],mo 1 8] [1,2] (.seq (sq [mo 9 1,bn 10 .lss (.t 9) (ki 0)] [1,2,10] (.cond (.t 10) (.seq (.ops [mk 4 (ki (-1))]) (.keep (kp [(4,0)] [] 0) .ret)) .skip)) (.trim [1,2] (sq [fa 11 1 2,ld 12 11,mo 13 1,ca 14 50 [.t 12,.t 13],mo 1 14] [1] (.seq (sq [mo 15 1,bn 16 .lss (.t 15) (ki 0)] [1,16] (.cond (.t 16) (.seq (.ops [mk 4 (ki (-1))]) (.keep (kp [(4,0)] [] 0) .ret)) .skip)) (.trim [1] (.seq (.ops [mo 17 1,mo 4 17]) (.keep (kp [(4,0)] [] 0) .ret))))))))),[.t 4]⟩
abbrev g117_S:=Sys.on [(49,g71_r),(50,g116_r)] []
def laws_szDisk (a_a:K0) (a_left:Int):Option (Int):=(laws_szStringS a_a.1 a_left).bind fun r1=>if r1 < 0 then some ((-1)) else (laws_szPutS a_a.2.1 r1).bind fun r2=>if r2 < 0 then some ((-1)) else some r2
@[simp] def g117_O:Int → TV × List Blk:=fun r=>((.int .i64 r),[])
def g117_E (a:K0 × Int):List TV:=[(.agg [(.vs (rows a.1.1)),(.vs (rows a.1.2.1)),(.int .i64 a.1.2.2.1),(.bool a.1.2.2.2)]),(.int .i64 a.2)]
theorem g117_run (a_a:K0) (a_left:Int) :callFn (X g117_S) g117_tf (g117_E (a_a,a_left)) [] = (laws_szDisk a_a a_left).map g117_O:=by
  rw [callFn_eq]
  simp (maxSteps:=2000000) (maxDischargeDepth:=8) -implicitDefEqProofs [g117_tf,laws_szDisk,g117_E] <;> (try simp only [map_to_bind,some_elim,g117_O])
def g117_r:Rule:=RlO g117_E (fun a=>laws_szDisk a.1 a.2) g117_O
theorem g117_ok:RuleOk Tryz.prog 23 g117_r:=ok_rlo (S:=g117_S) (tf:=g117_tf) (SysOk.on ⟨g71_ok,g116_ok,trivial⟩ trivial) (trE_ok (ks:=[]) Tryz.func23 (by kernel_rfl)) fun a=>g117_run a.1 a.2
@[simp] theorem g117_app (y0 y1 y2 y3 y4):g117_r [(.agg [(.vs (rows y0)),(.vs (rows y1)),(.int .i64 y2),(.bool y3)]),(.int .i64 y4)] = (laws_szDisk ((y0,y1,y2,y3)) y4).map g117_O :=
  RlO_app (enc:=g117_E) (by intro a b h; simp [g117_E,Prod.ext_iff] at h ⊢; simp [h]) ((y0,y1,y2,y3),y4)
/-! laws.szPage -/
def g118_tf:TFn:=⟨(sq [bx 2 0,mk 4 (ki 0)] [1,2] (sq [mo 5 1,fa 6 1 2,ld 7 6,oo 8 (.len true (.t 7)),bn 9 .sub (.t 5) (.t 8),mo 1 9] [1] (.seq (sq [mo 10 1,bn 11 .lss (.t 10) (ki 0)] [1,11] (.cond (.t 11) (.seq (.ops [mk 4 (ki (-1))]) (.keep (kp [(4,0)] [] 0) .ret)) .skip)) (.trim [1] (.seq (.ops [mo 12 1,mo 4 12]) (.keep (kp [(4,0)] [] 0) .ret)))))),[.t 4]⟩
abbrev g118_S:=Sys.on [] []
def laws_szPage (a_a:Int × Str) (a_left:Int):Option (Int):=if (IntKind.i64.wrap (a_left - ((a_a.2.length:Int)))) < 0 then some ((-1)) else some ((IntKind.i64.wrap (a_left - ((a_a.2.length:Int)))))
@[simp] def g118_O:Int → TV × List Blk:=fun r=>((.int .i64 r),[])
def g118_E (a:(Int × Str) × Int):List TV:=[(.agg [(.int .i64 a.1.1),(.str a.1.2)]),(.int .i64 a.2)]
theorem g118_run (a_a:Int × Str) (a_left:Int) :callFn (X g118_S) g118_tf (g118_E (a_a,a_left)) [] = (laws_szPage a_a a_left).map g118_O:=by
  rw [callFn_eq]
  simp (maxSteps:=2000000) (maxDischargeDepth:=8) -implicitDefEqProofs [g118_tf,laws_szPage,g118_E] <;> (try simp only [map_to_bind,some_elim,g118_O])
def g118_r:Rule:=RlO g118_E (fun a=>laws_szPage a.1 a.2) g118_O
theorem g118_ok:RuleOk Tryz.prog 51 g118_r:=ok_rlo (S:=g118_S) (tf:=g118_tf) (SysOk.on trivial trivial) (trE_ok (ks:=[]) Tryz.func51 (by kernel_rfl)) fun a=>g118_run a.1 a.2
@[simp] theorem g118_app (y0 y1 y2):g118_r [(.agg [(.int .i64 y0),(.str y1)]),(.int .i64 y2)] = (laws_szPage ((y0,y1)) y2).map g118_O :=
  RlO_app (enc:=g118_E) (by intro a b h; simp [g118_E,Prod.ext_iff] at h ⊢; simp [h]) ((y0,y1),y2)
/-! laws.szPageS -/
def g96l1_cb:TC:=(.seq (sq [mo 12 5,mo 13 0,le 14 13,bn 15 .lss (.t 12) (.t 14)] [0,1,5,15] (.cond (.t 15) .skip (.keep (kp [(1,0)] [] 0) (.exit 0)))) (.trim [0,1,5] (.seq (.block 1 (sq [mo 18 0,mo 19 5,ia 20 2 18 19,ln 21 2 20,mo 22 1,ca 23 51 [.t 21,.t 22],mo 1 23] [0,1,5] (sq [mo 24 1,bn 25 .lss (.t 24) (ki 0)] [0,1,5,25] (.cond (.t 25) (.seq (.ops [mk 4 (ki (-1))]) (.keep (kp [(4,0)] [] 0) .ret)) .skip)))) (.trim [0,1,5] (.after (.ops [mo 16 5,bn 17 .add (.t 16) (ki 1),mo 5 17]) (kp [(0,0),(1,0),(5,0)] [] 0))))))
def g96l1_c:TC:=.loop [0,1,5] g96l1_cb
def g96_tf:TFn:=⟨(sq [mk 4 (ki 0)] [0,1] (sq [mo 6 1,mo 7 0,le 8 7,bn 9 .sub (.t 6) (.t 8),mo 1 9] [0,1] (.seq (sq [mo 10 1,bn 11 .lss (.t 10) (ki 0)] [0,1,11] (.cond (.t 11) (.seq (.ops [mk 4 (ki (-1))]) (.keep (kp [(4,0)] [] 0) .ret)) .skip)) (.trim [0,1] (.seq (sq [mk 5 (ki 0)] [0,1,5] (.block 0 (.keep (kp [(0,0),(1,0),(5,0)] [] 0) g96l1_c))) (.trim [1] (.seq (.ops [mo 26 1,mo 4 26]) (.keep (kp [(4,0)] [] 0) .ret)))))))),[.t 4]⟩
abbrev g96_S:=Sys.on [(51,g118_r)] []
@[reducible,simp] def g96l1_F:((Int) ⊕ (Int)) → Out:=(Sum.elim (fun t=>(.ext 0,[(1,(.int .i64 t))],[])) (fun t=>(.ret,[(4,(.int .i64 t))],[])))
def laws_szPageS_l1_b (v1:List (Int × Str)) (v2:Int) (v3:Int):Option ((Int × Int) ⊕ ((Int) ⊕ (Int))):=if v3 < (v1.length:Int) then if 0 ≤ v3 then (v1[(v3).toNat]?).bind fun x4=>(laws_szPage x4 v2).bind fun r5=>if r5 < 0 then some (.inr (.inr ((-1)))) else some (.inl (r5,(IntKind.i64.wrap (v3 + 1)))) else none else some (.inr (.inl v2))
theorem g96l1_b_eq  (v1:List (Int × Str)) (v2:Int) (v3:Int):X g96_S g96l1_cb (keepEnv [0,1,5] [(0,(.vs (rows v1))),(1,(.int .i64 v2)),(5,(.int .i64 v3))]) [] = (laws_szPageS_l1_b v1 v2 v3).map (Sum.elim (fun s=>(TX.nrm,[(0,(.vs (rows v1))),(1,(.int .i64 s.1)),(5,(.int .i64 s.2))],[])) g96l1_F):=by
  simp (maxSteps:=2000000) (maxDischargeDepth:=8) -implicitDefEqProofs [g96l1_cb,laws_szPageS_l1_b] <;> (try simp only [map_to_bind,some_elim,g96l1_F])
def laws_szPageS_l1 (v1:List (Int × Str)) (s:Int × Int):Option ((Int) ⊕ (Int)):=loopO (fun s=>laws_szPageS_l1_b v1 s.1 s.2) s
@[simp] theorem g96l1_eq (y0 y1 y2):X g96_S g96l1_c [(0,(.vs (rows y0))),(1,(.int .i64 y1)),(5,(.int .i64 y2))] [] = (laws_szPageS_l1 y0 (y1,y2)).map g96l1_F:=by
  exact loop_X _ _ _ _ (by intro r; first | (simp; done) | (rcases r with r | r <;> simp; done) | (rcases r with r | r | r <;> simp; done) | (rcases r with r | r | r | r <;> simp)) (fun s=>g96l1_b_eq  y0 s.1 s.2) (y1,y2)
def laws_szPageS (a_a:List (Int × Str)) (a_left:Int):Option (Int):=if (IntKind.i64.wrap (a_left - ((a_a.length:Int)))) < 0 then some ((-1)) else (laws_szPageS_l1 a_a (((IntKind.i64.wrap (a_left - ((a_a.length:Int)))),0))).bind fun r6=>Sum.elim (fun u7=>some u7) (fun u8=>some u8) r6
@[simp] def g96_O:Int → TV × List Blk:=fun r=>((.int .i64 r),[])
def g96_E (a:(List (Int × Str)) × Int):List TV:=[(.vs (rows a.1)),(.int .i64 a.2)]
theorem g96_run (a_a:List (Int × Str)) (a_left:Int) :callFn (X g96_S) g96_tf (g96_E (a_a,a_left)) [] = (laws_szPageS a_a a_left).map g96_O:=by
  rw [callFn_eq]
  simp (maxSteps:=2000000) (maxDischargeDepth:=8) -implicitDefEqProofs [g96_tf,laws_szPageS,g96_E] <;> (try simp only [map_to_bind,some_elim,g96_O])
def g96_r:Rule:=RlO g96_E (fun a=>laws_szPageS a.1 a.2) g96_O
theorem g96_ok:RuleOk Tryz.prog 24 g96_r:=ok_rlo (S:=g96_S) (tf:=g96_tf) (SysOk.on ⟨g118_ok,trivial⟩ trivial) (trE_ok (ks:=[[0,1,5]]) Tryz.func24 (by kernel_rfl)) fun a=>g96_run a.1 a.2
@[simp] theorem g96_app (y0 y1):g96_r [(.vs (rows y0)),(.int .i64 y1)] = (laws_szPageS y0 y1).map g96_O :=
  RlO_app (enc:=g96_E) (by intro a b h; simp [g96_E,Prod.ext_iff] at h ⊢; simp [h]) (y0,y1)
/-! laws.szPager -/
def g97_tf:TFn:=⟨(sq [bx 2 0,mk 4 (ki 0)] [1,2] (sq [fa 5 0 2,ln 6 4 5,mo 7 1,ca 8 23 [.t 6,.t 7],mo 1 8] [1,2] (.seq (sq [mo 9 1,bn 10 .lss (.t 9) (ki 0)] [1,2,10] (.cond (.t 10) (.seq (.ops [mk 4 (ki (-1))]) (.keep (kp [(4,0)] [] 0) .ret)) .skip)) (.trim [1,2] (sq [fa 11 10 2,ld 12 11,mo 13 1,ca 14 24 [.t 12,.t 13],mo 1 14] [1,2] (.seq (sq [mo 15 1,bn 16 .lss (.t 15) (ki 0)] [1,2,16] (.cond (.t 16) (.seq (.ops [mk 4 (ki (-1))]) (.keep (kp [(4,0)] [] 0) .ret)) .skip)) (.trim [1,2] (sq [fa 17 11 2,ld 18 17,mo 19 1,ca 20 24 [.t 18,.t 19],mo 1 20] [1] (.seq (sq [mo 21 1,bn 22 .lss (.t 21) (ki 0)] [1,22] (.cond (.t 22) (.seq (.ops [mk 4 (ki (-1))]) (.keep (kp [(4,0)] [] 0) .ret)) .skip)) (.trim [1] (.seq (.ops [mo 23 1,mo 4 23]) (.keep (kp [(4,0)] [] 0) .ret)))))))))))),[.t 4]⟩
abbrev g97_S:=Sys.on [(23,g117_r),(24,g96_r)] []
def laws_szPager (a_a:K1) (a_left:Int):Option (Int):=(laws_szDisk a_a.1 a_left).bind fun r1=>if r1 < 0 then some ((-1)) else (laws_szPageS a_a.2.2.2.2.1 r1).bind fun r2=>if r2 < 0 then some ((-1)) else (laws_szPageS a_a.2.2.2.2.2 r2).bind fun r3=>if r3 < 0 then some ((-1)) else some r3
@[simp] def g97_O:Int → TV × List Blk:=fun r=>((.int .i64 r),[])
def g97_E (a:K1 × Int):List TV:=[(.agg [(.vs (rows a.1.1.1)),(.vs (rows a.1.1.2.1)),(.int .i64 a.1.1.2.2.1),(.bool a.1.1.2.2.2),(.int .i64 a.1.2.1.1),(.int .i64 a.1.2.1.2.1),(.int .i64 a.1.2.1.2.2.1),(.int .i64 a.1.2.1.2.2.2),(.int .i64 a.1.2.2.1),(.int .i64 a.1.2.2.2.1),(.vs (rows a.1.2.2.2.2.1)),(.vs (rows a.1.2.2.2.2.2))]),(.int .i64 a.2)]
theorem g97_run (a_a:K1) (a_left:Int) :callFn (X g97_S) g97_tf (g97_E (a_a,a_left)) [] = (laws_szPager a_a a_left).map g97_O:=by
  rw [callFn_eq]
  simp (maxSteps:=2000000) (maxDischargeDepth:=8) -implicitDefEqProofs [g97_tf,laws_szPager,g97_E] <;> (try simp only [map_to_bind,some_elim,g97_O])
def g97_r:Rule:=RlO g97_E (fun a=>laws_szPager a.1 a.2) g97_O
theorem g97_ok:RuleOk Tryz.prog 6 g97_r:=ok_rlo (S:=g97_S) (tf:=g97_tf) (SysOk.on ⟨g117_ok,g96_ok,trivial⟩ trivial) (trE_ok (ks:=[]) Tryz.func6 (by kernel_rfl)) fun a=>g97_run a.1 a.2
@[simp] theorem g97_app (y0 y1 y2 y3 y4 y5 y6 y7 y8 y9 y10 y11 y12):g97_r [(.agg [(.vs (rows y0)),(.vs (rows y1)),(.int .i64 y2),(.bool y3),(.int .i64 y4),(.int .i64 y5),(.int .i64 y6),(.int .i64 y7),(.int .i64 y8),(.int .i64 y9),(.vs (rows y10)),(.vs (rows y11))]),(.int .i64 y12)] = (laws_szPager (((y0,y1,y2,y3),(y4,y5,y6,y7),y8,y9,y10,y11)) y12).map g97_O :=
  RlO_app (enc:=g97_E) (by intro a b h; simp [g97_E,Prod.ext_iff] at h ⊢; simp [h]) (((y0,y1,y2,y3),(y4,y5,y6,y7),y8,y9,y10,y11),y12)
/-! laws.toStringS -/
def g72l1_cb:TC:=(.seq (sq [mo 8 4,mo 9 0,le 10 9,bn 11 .lss (.t 8) (.t 10)] [0,3,4,11] (.cond (.t 11) .skip (.keep (kp [(3,1)] [(0,1)] 0) (.exit 0)))) (.trim [0,3,4] (.seq (.block 1 (.ops [mo 14 3,mo 15 4,mo 16 0,mo 17 4,ia 18 1 16 17,ld 19 18,ia 20 1 14 15,⟨none,none,(.store 1 (.t 20) (.t 19))⟩])) (.trim [0,3,4] (.after (.ops [mo 12 4,bn 13 .add (.t 12) (ki 1),mo 4 13]) (kp [(0,0),(3,1),(4,0)] [(0,1)] 0))))))
def g72l1_c:TC:=.loop [0,3,4] g72l1_cb
def g72_tf:TFn:=⟨(sq [mk 2 (.c .nils)] [0] (sq [mo 5 0,le 6 5,oo 7 (.mkslice 16 [(.str [])] (.t 6) (.t 6)),mo 3 7] [0,3] (.seq (sq [mk 4 (ki 0)] [0,3,4] (.block 0 (.keep (kp [(0,0),(3,1),(4,0)] [(0,1)] 0) g72l1_c))) (.trim [3] (.seq (.ops [mo 21 3,mo 2 21]) (.keep (kp [(2,1)] [(0,1)] 0) .ret)))))),[.t 2]⟩
abbrev g72_S:=Sys.on [] []
@[reducible,simp] def g72l1_F:(List Str) → Out:=(fun t=>(.ext 0,[(3,(ow 0 t.length))],[(ob 1 t)]))
def laws_toStringS_l1_b (v2:List Str) (v3:List Str) (v4:Int):Option ((List Str × Int) ⊕ (List Str)):=if v4 < (v2.length:Int) then if 0 ≤ v4 then (v2[(v4).toNat]?).bind fun x5=>if 0 ≤ v4 ∧ v4 < ((v3.length:Nat):Int) then (v3[(v4).toNat]?).bind fun x6=>some (.inl ((v3.set (v4).toNat x5),(IntKind.i64.wrap (v4 + 1)))) else none else none else some (.inr v3)
theorem g72l1_b_eq  (v2:List Str) (v3:List Str) (v4:Int):X g72_S g72l1_cb (keepEnv [0,3,4] [(0,(.vs (rows v2))),(3,(ow 0 v3.length)),(4,(.int .i64 v4))]) [(ob 1 v3)] = (laws_toStringS_l1_b v2 v3 v4).map (Sum.elim (fun s=>(TX.nrm,[(0,(.vs (rows v2))),(3,(ow 0 s.1.length)),(4,(.int .i64 s.2))],[(ob 1 s.1)])) g72l1_F):=by
  simp (maxSteps:=2000000) (maxDischargeDepth:=8) -implicitDefEqProofs [g72l1_cb,laws_toStringS_l1_b,mksliceV_typed (z:=(([]:Str):Str)) (zs:=[(.str [])]) rfl (by decide)] <;> (try simp only [map_to_bind,some_elim,g72l1_F])
def laws_toStringS_l1 (v2:List Str) (s:List Str × Int):Option (List Str):=loopO (fun s=>laws_toStringS_l1_b v2 s.1 s.2) s
@[simp] theorem g72l1_eq (y0)(y1:List Str)(y2){n1:Nat}(h1:n1 = y1.length):X g72_S g72l1_c [(0,(.vs (rows y0))),(3,(ow 0 n1)),(4,(.int .i64 y2))] [(ob 1 y1)] = (laws_toStringS_l1 y0 (y1,y2)).map g72l1_F:=by
  subst h1
  exact loop_X _ _ _ _ (by intro r; first | (simp; done) | (rcases r with r | r <;> simp; done) | (rcases r with r | r | r <;> simp; done) | (rcases r with r | r | r | r <;> simp)) (fun s=>g72l1_b_eq  y0 s.1 s.2) (y1,y2)
def laws_toStringS (a_a:List Str):Option (List Str):=(mkL 16 ((a_a.length:Int)) ((a_a.length:Int)) (([]:Str):Str)).bind fun l1=>(laws_toStringS_l1 a_a ((l1,0))).bind fun r7=>some r7
@[simp] def g72_O:List Str → TV × List Blk:=fun r=>((ow 0 r.length),[(ob 1 r)])
def g72_E (a:List Str):List TV:=[(.vs (rows a))]
theorem g72_run (a_a:List Str) :callFn (X g72_S) g72_tf (g72_E a_a) [] = (laws_toStringS a_a).map g72_O:=by
  rw [callFn_eq]
  simp (maxSteps:=2000000) (maxDischargeDepth:=8) -implicitDefEqProofs [g72_tf,laws_toStringS,g72_E,mksliceV_typed (z:=(([]:Str):Str)) (zs:=[(.str [])]) rfl (by decide)] <;> (try simp only [map_to_bind,some_elim,g72_O])
def g72_r:Rule:=RlO g72_E (fun a=>laws_toStringS a) g72_O
theorem g72_ok:RuleOk Tryz.prog 64 g72_r:=ok_rlo (S:=g72_S) (tf:=g72_tf) (SysOk.on trivial trivial) (trE_ok (ks:=[[0,3,4]]) Tryz.func64 (by kernel_rfl)) fun a=>g72_run a
@[simp] theorem g72_app (y0):g72_r [(.vs (rows y0))] = (laws_toStringS y0).map g72_O :=
  RlO_app (enc:=g72_E) (by intro a b h; simp [g72_E,Prod.ext_iff] at h ⊢; simp [h]) y0
/-! laws.toPut -/
def g134_tf:TFn:=⟨(sq [bx 1 0,oo 2 (.alloc [(.int .i64 0),(.str [])])] [1,2] (sq [oo 3 (.alloc [(.int .i64 0),(.str [])])] [1,2,3] (sq [fa 4 0 1,ld 5 4,fa 6 0 3,⟨none,none,(.store 1 (.t 6) (.t 5))⟩] [1,2,3] (sq [fa 7 1 1,ld 8 7,fa 9 1 3,⟨none,none,(.store 1 (.t 9) (.t 8))⟩] [2,3] (.seq (.ops [ln 10 2 3,⟨none,none,(.store 2 (.t 2) (.t 10))⟩]) (.keep (kp [(2,0)] [(1,0)] 0) .ret)))))),[.cell 2 (some 2)]⟩
abbrev g134_S:=Sys.on [] []
def laws_toPut (a_a:Int × Str):Option ((Int × Str)):=some a_a
@[simp] def g134_O:((Int × Str)) → TV × List Blk:=fun r=>((.agg [(.int .i64 r.1),(.str r.2)]),[(.live 2 [[(.int .i64 r.1),(.str r.2)]])])
def g134_E (a:(Int × Str)):List TV:=[(.agg [(.int .i64 a.1),(.str a.2)])]
theorem g134_run (a_a:Int × Str) :callFn (X g134_S) g134_tf (g134_E a_a) [] = (laws_toPut a_a).map g134_O:=by
  rw [callFn_eq]
  simp (maxSteps:=2000000) (maxDischargeDepth:=8) -implicitDefEqProofs [g134_tf,laws_toPut,g134_E] <;> (try simp only [map_to_bind,some_elim,g134_O])
def g134_r:Rule:=RlO g134_E (fun a=>laws_toPut a) g134_O
theorem g134_ok:RuleOk Tryz.prog 106 g134_r:=ok_rlo (S:=g134_S) (tf:=g134_tf) (SysOk.on trivial trivial) (trE_ok (ks:=[]) Tryz.func106 (by kernel_rfl)) fun a=>g134_run a
@[simp] theorem g134_app (y0 y1):g134_r [(.agg [(.int .i64 y0),(.str y1)])] = (laws_toPut ((y0,y1))).map g134_O :=
  RlO_app (enc:=g134_E) (by intro a b h; simp [g134_E,Prod.ext_iff] at h ⊢; simp [h]) ((y0,y1))
/-! laws.toPutS -/
def g119l1_cb:TC:=(.seq (sq [mo 8 4,mo 9 0,le 10 9,bn 11 .lss (.t 8) (.t 10)] [0,3,4,11] (.cond (.t 11) .skip (.keep (kp [(3,1)] [(0,1)] 0) (.exit 0)))) (.trim [0,3,4] (.seq (.block 1 (.ops [mo 14 3,mo 15 4,mo 16 0,mo 17 4,ia 18 2 16 17,ln 19 2 18,ca 20 106 [.t 19],ia 21 2 14 15,⟨none,none,(.store 2 (.t 21) (.t 20))⟩])) (.trim [0,3,4] (.after (.ops [mo 12 4,bn 13 .add (.t 12) (ki 1),mo 4 13]) (kp [(0,0),(3,1),(4,0)] [(0,1)] 0))))))
def g119l1_c:TC:=.loop [0,3,4] g119l1_cb
def g119_tf:TFn:=⟨(sq [mk 2 (.c .nils)] [0] (sq [mo 5 0,le 6 5,oo 7 (.mkslice 24 [(.int .i64 0),(.str [])] (.t 6) (.t 6)),mo 3 7] [0,3] (.seq (sq [mk 4 (ki 0)] [0,3,4] (.block 0 (.keep (kp [(0,0),(3,1),(4,0)] [(0,1)] 0) g119l1_c))) (.trim [3] (.seq (.ops [mo 22 3,mo 2 22]) (.keep (kp [(2,1)] [(0,1)] 0) .ret)))))),[.t 2]⟩
abbrev g119_S:=Sys.on [(106,g134_r)] []
@[reducible,simp] def g119l1_F:((List (Int × Str))) → Out:=(fun t=>(.ext 0,[(3,(ow 0 t.length))],[(ob 2 t)]))
def laws_toPutS_l1_b (v2:List (Int × Str)) (v3:List (Int × Str)) (v4:Int):Option (((List (Int × Str)) × Int) ⊕ ((List (Int × Str)))):=if v4 < (v2.length:Int) then if 0 ≤ v4 then (v2[(v4).toNat]?).bind fun x5=>(laws_toPut x5).bind fun r6=>if 0 ≤ v4 ∧ v4 < ((v3.length:Nat):Int) then (v3[(v4).toNat]?).bind fun x7=>some (.inl ((v3.set (v4).toNat (r6.1,r6.2)),(IntKind.i64.wrap (v4 + 1)))) else none else none else some (.inr v3)
theorem g119l1_b_eq  (v2:List (Int × Str)) (v3:List (Int × Str)) (v4:Int):X g119_S g119l1_cb (keepEnv [0,3,4] [(0,(.vs (rows v2))),(3,(ow 0 v3.length)),(4,(.int .i64 v4))]) [(ob 2 v3)] = (laws_toPutS_l1_b v2 v3 v4).map (Sum.elim (fun s=>(TX.nrm,[(0,(.vs (rows v2))),(3,(ow 0 s.1.length)),(4,(.int .i64 s.2))],[(ob 2 s.1)])) g119l1_F):=by
  simp (maxSteps:=2000000) (maxDischargeDepth:=8) -implicitDefEqProofs [g119l1_cb,laws_toPutS_l1_b,mksliceV_typed (z:=((0,([]:Str)):Int × Str)) (zs:=[(.int .i64 0),(.str [])]) rfl (by decide)] <;> (try simp only [map_to_bind,some_elim,g119l1_F])
def laws_toPutS_l1 (v2:List (Int × Str)) (s:(List (Int × Str)) × Int):Option ((List (Int × Str))):=loopO (fun s=>laws_toPutS_l1_b v2 s.1 s.2) s
@[simp] theorem g119l1_eq (y0)(y1:List (Int × Str))(y2){n1:Nat}(h1:n1 = y1.length):X g119_S g119l1_c [(0,(.vs (rows y0))),(3,(ow 0 n1)),(4,(.int .i64 y2))] [(ob 2 y1)] = (laws_toPutS_l1 y0 (y1,y2)).map g119l1_F:=by
  subst h1
  exact loop_X _ _ _ _ (by intro r; first | (simp; done) | (rcases r with r | r <;> simp; done) | (rcases r with r | r | r <;> simp; done) | (rcases r with r | r | r | r <;> simp)) (fun s=>g119l1_b_eq  y0 s.1 s.2) (y1,y2)
def laws_toPutS (a_a:List (Int × Str)):Option ((List (Int × Str))):=(mkL 24 ((a_a.length:Int)) ((a_a.length:Int)) ((0,([]:Str)):Int × Str)).bind fun l1=>(laws_toPutS_l1 a_a ((l1,0))).bind fun r8=>some r8
@[simp] def g119_O:((List (Int × Str))) → TV × List Blk:=fun r=>((ow 0 r.length),[(ob 2 r)])
def g119_E (a:(List (Int × Str))):List TV:=[(.vs (rows a))]
theorem g119_run (a_a:List (Int × Str)) :callFn (X g119_S) g119_tf (g119_E a_a) [] = (laws_toPutS a_a).map g119_O:=by
  rw [callFn_eq]
  simp (maxSteps:=2000000) (maxDischargeDepth:=8) -implicitDefEqProofs [g119_tf,laws_toPutS,g119_E,mksliceV_typed (z:=((0,([]:Str)):Int × Str)) (zs:=[(.int .i64 0),(.str [])]) rfl (by decide)] <;> (try simp only [map_to_bind,some_elim,g119_O])
def g119_r:Rule:=RlO g119_E (fun a=>laws_toPutS a) g119_O
theorem g119_ok:RuleOk Tryz.prog 65 g119_r:=ok_rlo (S:=g119_S) (tf:=g119_tf) (SysOk.on ⟨g134_ok,trivial⟩ trivial) (trE_ok (ks:=[[0,3,4]]) Tryz.func65 (by kernel_rfl)) fun a=>g119_run a
@[simp] theorem g119_app (y0):g119_r [(.vs (rows y0))] = (laws_toPutS y0).map g119_O :=
  RlO_app (enc:=g119_E) (by intro a b h; simp [g119_E,Prod.ext_iff] at h ⊢; simp [h]) y0
/-! laws.toDisk -/
def g120_tf:TFn:=⟨(sq [bx 1 0,oo 2 (.alloc [.nils,.nils,(.int .i64 0),(.bool false)])] [1,2] (sq [oo 3 (.alloc [.nils,.nils,(.int .i64 0),(.bool false)])] [1,2,3] (sq [fa 4 0 1,ld 5 4,ca 6 64 [.t 5],fa 7 0 3,⟨none,none,(.store 1 (.t 7) (.t 6))⟩] [1,2,3] (sq [fa 8 1 1,ld 9 8,ca 10 65 [.t 9],fa 11 1 3,⟨none,none,(.store 1 (.t 11) (.t 10))⟩] [1,2,3] (sq [fa 12 2 1,ld 13 12,fa 14 2 3,⟨none,none,(.store 1 (.t 14) (.t 13))⟩] [1,2,3] (sq [fa 15 3 1,ld 16 15,fa 17 3 3,⟨none,none,(.store 1 (.t 17) (.t 16))⟩] [2,3] (.seq (.ops [ln 18 4 3,⟨none,none,(.store 4 (.t 2) (.t 18))⟩]) (.keep (kp [(2,0)] [(1,2),(3,1),(4,1)] 0) .ret)))))))),[.cell 2 (some 4)]⟩
abbrev g120_S:=Sys.on [(64,g72_r),(65,g119_r)] []
def laws_toDisk (a_a:K0):Option (K0):=(laws_toStringS a_a.1).bind fun r1=>(laws_toPutS a_a.2.1).bind fun r2=>some ((r1,r2,a_a.2.2.1,a_a.2.2.2))
@[simp] def g120_O:(K0) → TV × List Blk:=fun r=>((.agg [(ow 1 r.1.length),(ow 2 r.2.1.length),(.int .i64 r.2.2.1),(.bool r.2.2.2)]),[(.live 4 [[(ow 1 r.1.length),(ow 2 r.2.1.length),(.int .i64 r.2.2.1),(.bool r.2.2.2)]]),(ob 1 r.1),(ob 2 r.2.1)])
def g120_E (a:K0):List TV:=[(.agg [(.vs (rows a.1)),(.vs (rows a.2.1)),(.int .i64 a.2.2.1),(.bool a.2.2.2)])]
theorem g120_run (a_a:K0) :callFn (X g120_S) g120_tf (g120_E a_a) [] = (laws_toDisk a_a).map g120_O:=by
  rw [callFn_eq]
  simp (maxSteps:=2000000) (maxDischargeDepth:=8) -implicitDefEqProofs [g120_tf,laws_toDisk,g120_E] <;> (try simp only [map_to_bind,some_elim,g120_O])
def g120_r:Rule:=RlO g120_E (fun a=>laws_toDisk a) g120_O
theorem g120_ok:RuleOk Tryz.prog 27 g120_r:=ok_rlo (S:=g120_S) (tf:=g120_tf) (SysOk.on ⟨g72_ok,g119_ok,trivial⟩ trivial) (trE_ok (ks:=[]) Tryz.func27 (by kernel_rfl)) fun a=>g120_run a
@[simp] theorem g120_app (y0 y1 y2 y3):g120_r [(.agg [(.vs (rows y0)),(.vs (rows y1)),(.int .i64 y2),(.bool y3)])] = (laws_toDisk ((y0,y1,y2,y3))).map g120_O :=
  RlO_app (enc:=g120_E) (by intro a b h; simp [g120_E,Prod.ext_iff] at h ⊢; simp [h]) ((y0,y1,y2,y3))
/-! laws.toSuper -/
def g98_tf:TFn:=⟨(sq [bx 1 0,oo 2 (.alloc [(.int .i64 0),(.int .i64 0),(.int .i64 0),(.int .i64 0)])] [1,2] (sq [oo 3 (.alloc [(.int .i64 0),(.int .i64 0),(.int .i64 0),(.int .i64 0)])] [1,2,3] (sq [fa 4 0 1,ld 5 4,fa 6 0 3,⟨none,none,(.store 1 (.t 6) (.t 5))⟩] [1,2,3] (sq [fa 7 1 1,ld 8 7,fa 9 1 3,⟨none,none,(.store 1 (.t 9) (.t 8))⟩] [1,2,3] (sq [fa 10 2 1,ld 11 10,fa 12 2 3,⟨none,none,(.store 1 (.t 12) (.t 11))⟩] [1,2,3] (sq [fa 13 3 1,ld 14 13,fa 15 3 3,⟨none,none,(.store 1 (.t 15) (.t 14))⟩] [2,3] (.seq (.ops [ln 16 4 3,⟨none,none,(.store 4 (.t 2) (.t 16))⟩]) (.keep (kp [(2,0)] [(1,0)] 0) .ret)))))))),[.cell 2 (some 4)]⟩
abbrev g98_S:=Sys.on [] []
def laws_toSuper (a_a:Int × Int × Int × Int):Option ((Int × Int × Int × Int)):=some a_a
@[simp] def g98_O:((Int × Int × Int × Int)) → TV × List Blk:=fun r=>((.agg [(.int .i64 r.1),(.int .i64 r.2.1),(.int .i64 r.2.2.1),(.int .i64 r.2.2.2)]),[(.live 4 [[(.int .i64 r.1),(.int .i64 r.2.1),(.int .i64 r.2.2.1),(.int .i64 r.2.2.2)]])])
def g98_E (a:(Int × Int × Int × Int)):List TV:=[(.agg [(.int .i64 a.1),(.int .i64 a.2.1),(.int .i64 a.2.2.1),(.int .i64 a.2.2.2)])]
theorem g98_run (a_a:Int × Int × Int × Int) :callFn (X g98_S) g98_tf (g98_E a_a) [] = (laws_toSuper a_a).map g98_O:=by
  rw [callFn_eq]
  simp (maxSteps:=2000000) (maxDischargeDepth:=8) -implicitDefEqProofs [g98_tf,laws_toSuper,g98_E] <;> (try simp only [map_to_bind,some_elim,g98_O])
def g98_r:Rule:=RlO g98_E (fun a=>laws_toSuper a) g98_O
theorem g98_ok:RuleOk Tryz.prog 28 g98_r:=ok_rlo (S:=g98_S) (tf:=g98_tf) (SysOk.on trivial trivial) (trE_ok (ks:=[]) Tryz.func28 (by kernel_rfl)) fun a=>g98_run a
@[simp] theorem g98_app (y0 y1 y2 y3):g98_r [(.agg [(.int .i64 y0),(.int .i64 y1),(.int .i64 y2),(.int .i64 y3)])] = (laws_toSuper ((y0,y1,y2,y3))).map g98_O :=
  RlO_app (enc:=g98_E) (by intro a b h; simp [g98_E,Prod.ext_iff] at h ⊢; simp [h]) ((y0,y1,y2,y3))
/-! laws.toPage -/
def g121_tf:TFn:=⟨(sq [bx 1 0,oo 2 (.alloc [(.int .i64 0),(.str [])])] [1,2] (sq [oo 3 (.alloc [(.int .i64 0),(.str [])])] [1,2,3] (sq [fa 4 0 1,ld 5 4,fa 6 0 3,⟨none,none,(.store 1 (.t 6) (.t 5))⟩] [1,2,3] (sq [fa 7 1 1,ld 8 7,fa 9 1 3,⟨none,none,(.store 1 (.t 9) (.t 8))⟩] [2,3] (.seq (.ops [ln 10 2 3,⟨none,none,(.store 2 (.t 2) (.t 10))⟩]) (.keep (kp [(2,0)] [(1,0)] 0) .ret)))))),[.cell 2 (some 2)]⟩
abbrev g121_S:=Sys.on [] []
def laws_toPage (a_a:Int × Str):Option ((Int × Str)):=some a_a
@[simp] def g121_O:((Int × Str)) → TV × List Blk:=fun r=>((.agg [(.int .i64 r.1),(.str r.2)]),[(.live 2 [[(.int .i64 r.1),(.str r.2)]])])
def g121_E (a:(Int × Str)):List TV:=[(.agg [(.int .i64 a.1),(.str a.2)])]
theorem g121_run (a_a:Int × Str) :callFn (X g121_S) g121_tf (g121_E a_a) [] = (laws_toPage a_a).map g121_O:=by
  rw [callFn_eq]
  simp (maxSteps:=2000000) (maxDischargeDepth:=8) -implicitDefEqProofs [g121_tf,laws_toPage,g121_E] <;> (try simp only [map_to_bind,some_elim,g121_O])
def g121_r:Rule:=RlO g121_E (fun a=>laws_toPage a) g121_O
theorem g121_ok:RuleOk Tryz.prog 66 g121_r:=ok_rlo (S:=g121_S) (tf:=g121_tf) (SysOk.on trivial trivial) (trE_ok (ks:=[]) Tryz.func66 (by kernel_rfl)) fun a=>g121_run a
@[simp] theorem g121_app (y0 y1):g121_r [(.agg [(.int .i64 y0),(.str y1)])] = (laws_toPage ((y0,y1))).map g121_O :=
  RlO_app (enc:=g121_E) (by intro a b h; simp [g121_E,Prod.ext_iff] at h ⊢; simp [h]) ((y0,y1))
/-! laws.toPageS -/
def g99l1_cb:TC:=(.seq (sq [mo 8 4,mo 9 0,le 10 9,bn 11 .lss (.t 8) (.t 10)] [0,3,4,11] (.cond (.t 11) .skip (.keep (kp [(3,1)] [(0,1)] 0) (.exit 0)))) (.trim [0,3,4] (.seq (.block 1 (.ops [mo 14 3,mo 15 4,mo 16 0,mo 17 4,ia 18 2 16 17,ln 19 2 18,ca 20 66 [.t 19],ia 21 2 14 15,⟨none,none,(.store 2 (.t 21) (.t 20))⟩])) (.trim [0,3,4] (.after (.ops [mo 12 4,bn 13 .add (.t 12) (ki 1),mo 4 13]) (kp [(0,0),(3,1),(4,0)] [(0,1)] 0))))))
def g99l1_c:TC:=.loop [0,3,4] g99l1_cb
def g99_tf:TFn:=⟨(sq [mk 2 (.c .nils)] [0] (sq [mo 5 0,le 6 5,oo 7 (.mkslice 24 [(.int .i64 0),(.str [])] (.t 6) (.t 6)),mo 3 7] [0,3] (.seq (sq [mk 4 (ki 0)] [0,3,4] (.block 0 (.keep (kp [(0,0),(3,1),(4,0)] [(0,1)] 0) g99l1_c))) (.trim [3] (.seq (.ops [mo 22 3,mo 2 22]) (.keep (kp [(2,1)] [(0,1)] 0) .ret)))))),[.t 2]⟩
abbrev g99_S:=Sys.on [(66,g121_r)] []
@[reducible,simp] def g99l1_F:((List (Int × Str))) → Out:=(fun t=>(.ext 0,[(3,(ow 0 t.length))],[(ob 2 t)]))
def laws_toPageS_l1_b (v2:List (Int × Str)) (v3:List (Int × Str)) (v4:Int):Option (((List (Int × Str)) × Int) ⊕ ((List (Int × Str)))):=if v4 < (v2.length:Int) then if 0 ≤ v4 then (v2[(v4).toNat]?).bind fun x5=>(laws_toPage x5).bind fun r6=>if 0 ≤ v4 ∧ v4 < ((v3.length:Nat):Int) then (v3[(v4).toNat]?).bind fun x7=>some (.inl ((v3.set (v4).toNat (r6.1,r6.2)),(IntKind.i64.wrap (v4 + 1)))) else none else none else some (.inr v3)
theorem g99l1_b_eq  (v2:List (Int × Str)) (v3:List (Int × Str)) (v4:Int):X g99_S g99l1_cb (keepEnv [0,3,4] [(0,(.vs (rows v2))),(3,(ow 0 v3.length)),(4,(.int .i64 v4))]) [(ob 2 v3)] = (laws_toPageS_l1_b v2 v3 v4).map (Sum.elim (fun s=>(TX.nrm,[(0,(.vs (rows v2))),(3,(ow 0 s.1.length)),(4,(.int .i64 s.2))],[(ob 2 s.1)])) g99l1_F):=by
  simp (maxSteps:=2000000) (maxDischargeDepth:=8) -implicitDefEqProofs [g99l1_cb,laws_toPageS_l1_b,mksliceV_typed (z:=((0,([]:Str)):Int × Str)) (zs:=[(.int .i64 0),(.str [])]) rfl (by decide)] <;> (try simp only [map_to_bind,some_elim,g99l1_F])
def laws_toPageS_l1 (v2:List (Int × Str)) (s:(List (Int × Str)) × Int):Option ((List (Int × Str))):=loopO (fun s=>laws_toPageS_l1_b v2 s.1 s.2) s
@[simp] theorem g99l1_eq (y0)(y1:List (Int × Str))(y2){n1:Nat}(h1:n1 = y1.length):X g99_S g99l1_c [(0,(.vs (rows y0))),(3,(ow 0 n1)),(4,(.int .i64 y2))] [(ob 2 y1)] = (laws_toPageS_l1 y0 (y1,y2)).map g99l1_F:=by
  subst h1
  exact loop_X _ _ _ _ (by intro r; first | (simp; done) | (rcases r with r | r <;> simp; done) | (rcases r with r | r | r <;> simp; done) | (rcases r with r | r | r | r <;> simp)) (fun s=>g99l1_b_eq  y0 s.1 s.2) (y1,y2)
def laws_toPageS (a_a:List (Int × Str)):Option ((List (Int × Str))):=(mkL 24 ((a_a.length:Int)) ((a_a.length:Int)) ((0,([]:Str)):Int × Str)).bind fun l1=>(laws_toPageS_l1 a_a ((l1,0))).bind fun r8=>some r8
@[simp] def g99_O:((List (Int × Str))) → TV × List Blk:=fun r=>((ow 0 r.length),[(ob 2 r)])
def g99_E (a:(List (Int × Str))):List TV:=[(.vs (rows a))]
theorem g99_run (a_a:List (Int × Str)) :callFn (X g99_S) g99_tf (g99_E a_a) [] = (laws_toPageS a_a).map g99_O:=by
  rw [callFn_eq]
  simp (maxSteps:=2000000) (maxDischargeDepth:=8) -implicitDefEqProofs [g99_tf,laws_toPageS,g99_E,mksliceV_typed (z:=((0,([]:Str)):Int × Str)) (zs:=[(.int .i64 0),(.str [])]) rfl (by decide)] <;> (try simp only [map_to_bind,some_elim,g99_O])
def g99_r:Rule:=RlO g99_E (fun a=>laws_toPageS a) g99_O
theorem g99_ok:RuleOk Tryz.prog 29 g99_r:=ok_rlo (S:=g99_S) (tf:=g99_tf) (SysOk.on ⟨g121_ok,trivial⟩ trivial) (trE_ok (ks:=[[0,3,4]]) Tryz.func29 (by kernel_rfl)) fun a=>g99_run a
@[simp] theorem g99_app (y0):g99_r [(.vs (rows y0))] = (laws_toPageS y0).map g99_O :=
  RlO_app (enc:=g99_E) (by intro a b h; simp [g99_E,Prod.ext_iff] at h ⊢; simp [h]) y0
/-! laws.toPager -/
def g100_tf:TFn:=⟨(sq [bx 1 0,oo 2 (.alloc [.nils,.nils,(.int .i64 0),(.bool false),(.int .i64 0),(.int .i64 0),(.int .i64 0),(.int .i64 0),(.int .i64 0),(.int .i64 0),.nils,.nils])] [1,2] (sq [oo 3 (.alloc [.nils,.nils,(.int .i64 0),(.bool false),(.int .i64 0),(.int .i64 0),(.int .i64 0),(.int .i64 0),(.int .i64 0),(.int .i64 0),.nils,.nils])] [1,2,3] (sq [fa 4 0 1,ln 5 4 4,ca 6 27 [.t 5],fa 7 0 3,⟨none,none,(.store 4 (.t 7) (.t 6))⟩] [1,2,3] (sq [fa 8 4 1,ln 9 4 8,ca 10 28 [.t 9],fa 11 4 3,⟨none,none,(.store 4 (.t 11) (.t 10))⟩] [1,2,3] (sq [fa 12 8 1,ld 13 12,fa 14 8 3,⟨none,none,(.store 1 (.t 14) (.t 13))⟩] [1,2,3] (sq [fa 15 9 1,ld 16 15,fa 17 9 3,⟨none,none,(.store 1 (.t 17) (.t 16))⟩] [1,2,3] (sq [fa 18 10 1,ld 19 18,ca 20 29 [.t 19],fa 21 10 3,⟨none,none,(.store 1 (.t 21) (.t 20))⟩] [1,2,3] (sq [fa 22 11 1,ld 23 22,ca 24 29 [.t 23],fa 25 11 3,⟨none,none,(.store 1 (.t 25) (.t 24))⟩] [2,3] (.seq (.ops [ln 26 12 3,⟨none,none,(.store 12 (.t 2) (.t 26))⟩]) (.keep (kp [(2,0)] [(1,2),(4,1),(5,1),(7,1),(8,1)] 0) .ret)))))))))),[.cell 2 (some 12)]⟩
abbrev g100_S:=Sys.on [(27,g120_r),(28,g98_r),(29,g99_r)] []
def laws_toPager (a_a:K1):Option (K1):=(laws_toDisk a_a.1).bind fun r1=>(laws_toSuper a_a.2.1).bind fun r2=>(laws_toPageS a_a.2.2.2.2.1).bind fun r3=>(laws_toPageS a_a.2.2.2.2.2).bind fun r4=>some ((r1,r2,a_a.2.2.1,a_a.2.2.2.1,r3,r4))
@[simp] def g100_O:(K1) → TV × List Blk:=fun r=>((.agg [(ow 1 r.1.1.length),(ow 2 r.1.2.1.length),(.int .i64 r.1.2.2.1),(.bool r.1.2.2.2),(.int .i64 r.2.1.1),(.int .i64 r.2.1.2.1),(.int .i64 r.2.1.2.2.1),(.int .i64 r.2.1.2.2.2),(.int .i64 r.2.2.1),(.int .i64 r.2.2.2.1),(ow 3 r.2.2.2.2.1.length),(ow 4 r.2.2.2.2.2.length)]),[(.live 12 [[(ow 1 r.1.1.length),(ow 2 r.1.2.1.length),(.int .i64 r.1.2.2.1),(.bool r.1.2.2.2),(.int .i64 r.2.1.1),(.int .i64 r.2.1.2.1),(.int .i64 r.2.1.2.2.1),(.int .i64 r.2.1.2.2.2),(.int .i64 r.2.2.1),(.int .i64 r.2.2.2.1),(ow 3 r.2.2.2.2.1.length),(ow 4 r.2.2.2.2.2.length)]]),(ob 1 r.1.1),(ob 2 r.1.2.1),(ob 2 r.2.2.2.2.1),(ob 2 r.2.2.2.2.2)])
def g100_E (a:K1):List TV:=[(.agg [(.vs (rows a.1.1)),(.vs (rows a.1.2.1)),(.int .i64 a.1.2.2.1),(.bool a.1.2.2.2),(.int .i64 a.2.1.1),(.int .i64 a.2.1.2.1),(.int .i64 a.2.1.2.2.1),(.int .i64 a.2.1.2.2.2),(.int .i64 a.2.2.1),(.int .i64 a.2.2.2.1),(.vs (rows a.2.2.2.2.1)),(.vs (rows a.2.2.2.2.2))])]
theorem g100_run (a_a:K1) :callFn (X g100_S) g100_tf (g100_E a_a) [] = (laws_toPager a_a).map g100_O:=by
  rw [callFn_eq]
  simp (maxSteps:=2000000) (maxDischargeDepth:=8) -implicitDefEqProofs [g100_tf,laws_toPager,g100_E] <;> (try simp only [map_to_bind,some_elim,g100_O])
def g100_r:Rule:=RlO g100_E (fun a=>laws_toPager a) g100_O
theorem g100_ok:RuleOk Tryz.prog 8 g100_r:=ok_rlo (S:=g100_S) (tf:=g100_tf) (SysOk.on ⟨g120_ok,g98_ok,g99_ok,trivial⟩ trivial) (trE_ok (ks:=[]) Tryz.func8 (by kernel_rfl)) fun a=>g100_run a
@[simp] theorem g100_app (y0 y1 y2 y3 y4 y5 y6 y7 y8 y9 y10 y11):g100_r [(.agg [(.vs (rows y0)),(.vs (rows y1)),(.int .i64 y2),(.bool y3),(.int .i64 y4),(.int .i64 y5),(.int .i64 y6),(.int .i64 y7),(.int .i64 y8),(.int .i64 y9),(.vs (rows y10)),(.vs (rows y11))])] = (laws_toPager (((y0,y1,y2,y3),(y4,y5,y6,y7),y8,y9,y10,y11))).map g100_O :=
  RlO_app (enc:=g100_E) (by intro a b h; simp [g100_E,Prod.ext_iff] at h ⊢; simp [h]) (((y0,y1,y2,y3),(y4,y5,y6,y7),y8,y9,y10,y11))
/-! spec.l00In -/
def g135_tf:TFn:=⟨(sq [mk 6 (kb false)] [0,1,2] (.seq (.after (.ops [mo 7 0,mo 8 1,bn 9 .geq (.t 7) (.t 8),mo 10 9,⟨(some 11),(some (10,true)),(.mv (.t 0))⟩,⟨(some 12),(some (10,true)),(.mv (.t 2))⟩,⟨(some 13),(some (10,true)),(.bin .num .leq (.t 11) (.t 12))⟩,pk 14 (.t 10) (.t 13) (kb false),mo 6 14]) (kp [(6,0)] [] 0)) (.keep (kp [(6,0)] [] 0) .ret))),[.t 6]⟩
abbrev g135_S:=Sys.on [] []
def spec_l00In (a_n:Int) (a_low:Int) (a_high:Int):Option (Bool):=if a_n ≥ a_low then some ((decide (a_n ≤ a_high))) else some false
@[simp] def g135_O:Bool → TV × List Blk:=fun r=>((.bool r),[])
def g135_E (a:Int × Int × Int):List TV:=[(.int .i64 a.1),(.int .i64 a.2.1),(.int .i64 a.2.2)]
theorem g135_run (a_n:Int) (a_low:Int) (a_high:Int) :callFn (X g135_S) g135_tf (g135_E (a_n,a_low,a_high)) [] = (spec_l00In a_n a_low a_high).map g135_O:=by
  rw [callFn_eq]
  simp (maxSteps:=2000000) (maxDischargeDepth:=8) -implicitDefEqProofs [g135_tf,spec_l00In,g135_E] <;> (try simp only [map_to_bind,some_elim,g135_O])
def g135_r:Rule:=RlO g135_E (fun a=>spec_l00In a.1 a.2.1 a.2.2) g135_O
theorem g135_ok:RuleOk Tryz.prog 54 g135_r:=ok_rlo (S:=g135_S) (tf:=g135_tf) (SysOk.on trivial trivial) (trE_ok (ks:=[]) Tryz.func54 (by kernel_rfl)) fun a=>g135_run a.1 a.2.1 a.2.2
@[simp] theorem g135_app (y0 y1 y2):g135_r [(.int .i64 y0),(.int .i64 y1),(.int .i64 y2)] = (spec_l00In y0 y1 y2).map g135_O :=
  RlO_app (enc:=g135_E) (by intro a b h; simp [g135_E,Prod.ext_iff] at h ⊢; simp [h]) (y0,y1,y2)
/-! spec.l09Ok -/
def g136l1_cb:TC:=(.seq (sq [mo 30 4,mo 31 0,nk 32 31,fa 33 0 32,ld 34 33,le 35 34,bn 36 .lss (.t 30) (.t 35)] [0,3,4,36] (.cond (.t 36) .skip (.keep (kp [(0,0),(3,0)] [] 0) (.exit 0)))) (.trim [0,3,4] (.seq (.block 1 (sq [mo 39 0,nk 40 39,fa 41 0 40,ld 42 41,mo 43 4,ia 44 1 42 43,ld 45 44,oo 46 (.len true (.t 45)),bn 47 .neq (.t 46) (ki 64)] [0,3,4,47] (.cond (.t 47) (.seq (.ops [mk 2 (kb false)]) (.keep (kp [(2,0)] [] 0) .ret)) .skip))) (.trim [0,3,4] (.after (.ops [mo 37 4,bn 38 .add (.t 37) (ki 1),mo 4 38]) (kp [(0,0),(3,0),(4,0)] [] 0))))))
def g136l1_c:TC:=.loop [0,3,4] g136l1_cb
def g136l2_cb:TC:=(.seq (sq [mo 48 5,mo 49 0,nk 50 49,fa 51 1 50,ld 52 51,le 53 52,bn 54 .lss (.t 48) (.t 53)] [0,3,5,54] (.cond (.t 54) .skip (.keep (kp [] [] 0) (.exit 2)))) (.trim [0,3,5] (.seq (.block 3 (sq [mo 57 0,nk 58 57,fa 59 1 58,ld 60 59,mo 61 5,ia 62 2 60 61,fa 63 0 62,ld 64 63,mo 65 3,bn 66 .sub (.t 65) (ki 1),ca 67 54 [.t 64,ki 0,.t 66],nt 68 67,mo 69 68,⟨(some 70),(some (69,false)),(.mv (.t 0))⟩,⟨(some 71),(some (69,false)),(.nilchk (.t 70))⟩,⟨(some 72),(some (69,false)),(.faddr 1 (.t 71))⟩,⟨(some 73),(some (69,false)),(.load none (.t 72))⟩,⟨(some 74),(some (69,false)),(.mv (.t 5))⟩,⟨(some 75),(some (69,false)),(.iaddr 2 (.t 73) (.t 74))⟩,⟨(some 76),(some (69,false)),(.faddr 1 (.t 75))⟩,⟨(some 77),(some (69,false)),(.load none (.t 76))⟩,⟨(some 78),(some (69,false)),(.len true (.t 77))⟩,⟨(some 79),(some (69,false)),(.bin .num .neq (.t 78) (ki 64))⟩,pk 80 (.t 69) (kb true) (.t 79)] [0,3,5,80] (.cond (.t 80) (.seq (.ops [mk 2 (kb false)]) (.keep (kp [(2,0)] [] 0) .ret)) .skip))) (.trim [0,3,5] (.after (.ops [mo 55 5,bn 56 .add (.t 55) (ki 1),mo 5 56]) (kp [(0,0),(3,0),(5,0)] [] 0))))))
def g136l2_c:TC:=.loop [0,3,5] g136l2_cb
def g136_tf:TFn:=⟨(sq [mk 2 (kb false)] [0] (sq [mo 6 0,nk 7 6,fa 8 0 7,ld 9 8,le 10 9,mo 3 10] [0,3] (.seq (sq [mo 11 3,ca 12 54 [.t 11,ki 16,ki 256],nt 13 12,mo 14 13,⟨(some 15),(some (14,false)),(.mv (.t 0))⟩,⟨(some 16),(some (14,false)),(.nilchk (.t 15))⟩,⟨(some 17),(some (14,false)),(.faddr 1 (.t 16))⟩,⟨(some 18),(some (14,false)),(.load none (.t 17))⟩,⟨(some 19),(some (14,false)),(.len false (.t 18))⟩,⟨(some 20),(some (14,false)),(.bin .num .gtr (.t 19) (ki 600))⟩,pk 21 (.t 14) (kb true) (.t 20),mo 22 21,⟨(some 23),(some (22,false)),(.mv (.t 0))⟩,⟨(some 24),(some (22,false)),(.nilchk (.t 23))⟩,⟨(some 25),(some (22,false)),(.faddr 2 (.t 24))⟩,⟨(some 26),(some (22,false)),(.load none (.t 25))⟩,⟨(some 27),(some (22,false)),(.call 54 [.t 26,(ki (-1)),ki 100000])⟩,⟨(some 28),(some (22,false)),(.un .not (.t 27))⟩,pk 29 (.t 22) (kb true) (.t 28)] [0,3,29] (.cond (.t 29) (.seq (.ops [mk 2 (kb false)]) (.keep (kp [(2,0)] [] 0) .ret)) .skip)) (.trim [0,3] (.seq (sq [mk 4 (ki 0)] [0,3,4] (.block 0 (.keep (kp [(0,0),(3,0),(4,0)] [] 0) g136l1_c))) (.trim [0,3] (.seq (sq [mk 5 (ki 0)] [0,3,5] (.block 2 (.keep (kp [(0,0),(3,0),(5,0)] [] 0) g136l2_c))) (.trim [] (.seq (.ops [mk 2 (kb true)]) (.keep (kp [(2,0)] [] 0) .ret)))))))))),[.t 2]⟩
abbrev g136_S:=Sys.on [(54,g135_r)] []
def spec_l09Ok_l1_b (v3:List Str) (v4:List (Int × Str)) (v5:Int) (v6:Bool) (v7:Int) (v8:Int):Option ((Int) ⊕ ((List Str × (List (Int × Str)) × Int × Bool × Int) ⊕ (Bool))):=if v8 < (v3.length:Int) then if 0 ≤ v8 then (v3[(v8).toNat]?).bind fun x9=>if ¬((x9.length:Int) = 64) then some (.inr (.inr false)) else some (.inl ((IntKind.i64.wrap (v8 + 1)))) else none else some (.inr (.inl (v3,v4,v5,v6,v7)))
theorem g136l1_b_eq (q0:List TV) (v3:List Str) (v4:List (Int × Str)) (v5:Int) (v6:Bool) (v7:Int) (v8:Int):X g136_S g136l1_cb (keepEnv [0,3,4] [(0,(.vp ((.vs (rows v3))::(.vs (rows v4))::(.int .i64 v5)::(.bool v6)::q0))),(3,(.int .i64 v7)),(4,(.int .i64 v8))]) [] = (spec_l09Ok_l1_b v3 v4 v5 v6 v7 v8).map (Sum.elim (fun s=>(TX.nrm,[(0,(.vp ((.vs (rows v3))::(.vs (rows v4))::(.int .i64 v5)::(.bool v6)::q0))),(3,(.int .i64 v7)),(4,(.int .i64 s))],[])) (Sum.elim (fun t=>(.ext 0,[(0,(.vp ((.vs (rows t.1))::(.vs (rows t.2.1))::(.int .i64 t.2.2.1)::(.bool t.2.2.2.1)::q0))),(3,(.int .i64 t.2.2.2.2))],[])) (fun t=>(.ret,[(2,(.bool t))],[])))):=by
  simp (maxSteps:=2000000) (maxDischargeDepth:=8) -implicitDefEqProofs [g136l1_cb,spec_l09Ok_l1_b] <;> (try simp only [map_to_bind,some_elim])
def spec_l09Ok_l1 (v3:List Str) (v4:List (Int × Str)) (v5:Int) (v6:Bool) (v7:Int) (s:Int):Option ((List Str × (List (Int × Str)) × Int × Bool × Int) ⊕ (Bool)):=loopO (fun s=>spec_l09Ok_l1_b v3 v4 v5 v6 v7 s) s
@[simp] theorem g136l1_eq (q0:List TV)(y0 y1 y2 y3 y4 y5):X g136_S g136l1_c [(0,(.vp ((.vs (rows y0))::(.vs (rows y1))::(.int .i64 y2)::(.bool y3)::q0))),(3,(.int .i64 y4)),(4,(.int .i64 y5))] [] = (spec_l09Ok_l1 y0 y1 y2 y3 y4 y5).map (Sum.elim (fun t=>(.ext 0,[(0,(.vp ((.vs (rows t.1))::(.vs (rows t.2.1))::(.int .i64 t.2.2.1)::(.bool t.2.2.2.1)::q0))),(3,(.int .i64 t.2.2.2.2))],[])) (fun t=>(.ret,[(2,(.bool t))],[]))):=by
  exact loop_X _ _ _ _ (by intro r; first | (simp; done) | (rcases r with r | r <;> simp; done) | (rcases r with r | r | r <;> simp; done) | (rcases r with r | r | r | r <;> simp)) (fun s=>g136l1_b_eq q0 y0 y1 y2 y3 y4 s) y5
@[reducible,simp] def g136l2_F:((Unit) ⊕ (Bool)) → Out:=(Sum.elim (fun t=>(.ext 2,[],[])) (fun t=>(.ret,[(2,(.bool t))],[])))
def spec_l09Ok_l2_b (v13:List Str) (v14:List (Int × Str)) (v15:Int) (v16:Bool) (v17:Int) (v18:Int):Option ((Int) ⊕ ((Unit) ⊕ (Bool))):=if v18 < (v14.length:Int) then if 0 ≤ v18 then (v14[(v18).toNat]?).bind fun x19=>(spec_l00In x19.1 0 ((IntKind.i64.wrap (v17 - 1)))).bind fun r20=>if ¬(r20 = true) then some (.inr (.inr false)) else if 0 ≤ v18 then (v14[(v18).toNat]?).bind fun x21=>if ¬((x21.2.length:Int) = 64) then some (.inr (.inr false)) else some (.inl ((IntKind.i64.wrap (v18 + 1)))) else none else none else some (.inr (.inl ()))
theorem g136l2_b_eq (q0:List TV) (v13:List Str) (v14:List (Int × Str)) (v15:Int) (v16:Bool) (v17:Int) (v18:Int):X g136_S g136l2_cb (keepEnv [0,3,5] [(0,(.vp ((.vs (rows v13))::(.vs (rows v14))::(.int .i64 v15)::(.bool v16)::q0))),(3,(.int .i64 v17)),(5,(.int .i64 v18))]) [] = (spec_l09Ok_l2_b v13 v14 v15 v16 v17 v18).map (Sum.elim (fun s=>(TX.nrm,[(0,(.vp ((.vs (rows v13))::(.vs (rows v14))::(.int .i64 v15)::(.bool v16)::q0))),(3,(.int .i64 v17)),(5,(.int .i64 s))],[])) g136l2_F):=by
  simp (maxSteps:=2000000) (maxDischargeDepth:=8) -implicitDefEqProofs [g136l2_cb,spec_l09Ok_l2_b] <;> (try simp only [map_to_bind,some_elim,g136l2_F])
def spec_l09Ok_l2 (v13:List Str) (v14:List (Int × Str)) (v15:Int) (v16:Bool) (v17:Int) (s:Int):Option ((Unit) ⊕ (Bool)):=loopO (fun s=>spec_l09Ok_l2_b v13 v14 v15 v16 v17 s) s
@[simp] theorem g136l2_eq (q0:List TV)(y0 y1 y2 y3 y4 y5):X g136_S g136l2_c [(0,(.vp ((.vs (rows y0))::(.vs (rows y1))::(.int .i64 y2)::(.bool y3)::q0))),(3,(.int .i64 y4)),(5,(.int .i64 y5))] [] = (spec_l09Ok_l2 y0 y1 y2 y3 y4 y5).map g136l2_F:=by
  exact loop_X _ _ _ _ (by intro r; first | (simp; done) | (rcases r with r | r <;> simp; done) | (rcases r with r | r | r <;> simp; done) | (rcases r with r | r | r | r <;> simp)) (fun s=>g136l2_b_eq q0 y0 y1 y2 y3 y4 s) y5
def spec_l09Ok (a_d:K0):Option (Bool):=(spec_l00In ((a_d.1.length:Int)) 16 256).bind fun r1=>if ¬(r1 = true) then some false else if (a_d.2.1.length:Int) > 600 then some false else (spec_l00In a_d.2.2.1 ((-1)) 100000).bind fun r2=>if ¬(r2 = true) then some false else (spec_l09Ok_l1 a_d.1 a_d.2.1 a_d.2.2.1 a_d.2.2.2 ((a_d.1.length:Int)) 0).bind fun r10=>Sum.elim (fun u11=>(spec_l09Ok_l2 u11.1 u11.2.1 u11.2.2.1 u11.2.2.2.1 u11.2.2.2.2 0).bind fun r22=>Sum.elim (fun u23=>some true) (fun u24=>some u24) r22) (fun u12=>some u12) r10
@[simp] def g136_O:Bool → TV × List Blk:=fun r=>((.bool r),[])
def g136_E (a:K0 × List TV):List TV:=[(.vp ((.vs (rows a.1.1))::(.vs (rows a.1.2.1))::(.int .i64 a.1.2.2.1)::(.bool a.1.2.2.2)::a.2))]
theorem g136_run (a_d:K0) (q0:List TV):callFn (X g136_S) g136_tf (g136_E (a_d,q0)) [] = (spec_l09Ok a_d).map g136_O:=by
  rw [callFn_eq]
  simp (maxSteps:=2000000) (maxDischargeDepth:=8) -implicitDefEqProofs [g136_tf,spec_l09Ok,g136_E] <;> (try simp only [map_to_bind,some_elim,g136_O])
def g136_r:Rule:=RlO g136_E (fun a=>spec_l09Ok a.1) g136_O
theorem g136_ok:RuleOk Tryz.prog 52 g136_r:=ok_rlo (S:=g136_S) (tf:=g136_tf) (SysOk.on ⟨g135_ok,trivial⟩ trivial) (trE_ok (ks:=[[0,3,4],[0,3,5]]) Tryz.func52 (by kernel_rfl)) fun a=>g136_run a.1 a.2
@[simp] theorem g136_app (y0 y1 y2 y3)(q0:List TV):g136_r [(.vp ((.vs (rows y0))::(.vs (rows y1))::(.int .i64 y2)::(.bool y3)::q0))] = (spec_l09Ok ((y0,y1,y2,y3))).map g136_O :=
  RlO_app (enc:=g136_E) (by intro a b h; simp [g136_E,Prod.ext_iff] at h ⊢; simp [h]) ((y0,y1,y2,y3),q0)
/-! spec.ValidSuper -/
def g57_tf:TFn:=⟨(sq [bx 1 0,mk 2 (kb false)] [1] (.seq (.after (.ops [fa 3 0 1,ld 4 3,ca 5 54 [.t 4,ki 16,ki 256],mo 6 5,⟨(some 7),(some (6,true)),(.faddr 1 (.t 1))⟩,⟨(some 8),(some (6,true)),(.load none (.t 7))⟩,⟨(some 9),(some (6,true)),(.call 54 [.t 8,ki 8,ki 64])⟩,pk 10 (.t 6) (.t 9) (kb false),mo 11 10,⟨(some 12),(some (11,true)),(.faddr 1 (.t 1))⟩,⟨(some 13),(some (11,true)),(.load none (.t 12))⟩,⟨(some 14),(some (11,true)),(.faddr 0 (.t 1))⟩,⟨(some 15),(some (11,true)),(.load none (.t 14))⟩,⟨(some 16),(some (11,true)),(.bin .num .sub (.t 15) (ki 4))⟩,⟨(some 17),(some (11,true)),(.bin .num .leq (.t 13) (.t 16))⟩,pk 18 (.t 11) (.t 17) (kb false),mo 19 18,⟨(some 20),(some (19,true)),(.faddr 2 (.t 1))⟩,⟨(some 21),(some (19,true)),(.load none (.t 20))⟩,⟨(some 22),(some (19,true)),(.call 54 [.t 21,ki 0,ki 1000000000000])⟩,pk 23 (.t 19) (.t 22) (kb false),mo 24 23,⟨(some 25),(some (24,true)),(.faddr 3 (.t 1))⟩,⟨(some 26),(some (24,true)),(.load none (.t 25))⟩,⟨(some 27),(some (24,true)),(.call 54 [.t 26,ki 0,ki 1000000000000])⟩,pk 28 (.t 24) (.t 27) (kb false),mo 2 28]) (kp [(2,0)] [] 0)) (.keep (kp [(2,0)] [] 0) .ret))),[.t 2]⟩
abbrev g57_S:=Sys.on [(54,g135_r)] []
def spec_ValidSuper (a_s:Int × Int × Int × Int):Option (Bool):=(spec_l00In a_s.1 16 256).bind fun r1=>if r1 = true then (spec_l00In a_s.2.1 8 64).bind fun r2=>if r2 = true then if a_s.2.1 ≤ (IntKind.i64.wrap (a_s.1 - 4)) then (spec_l00In a_s.2.2.1 0 1000000000000).bind fun r3=>if r3 = true then (spec_l00In a_s.2.2.2 0 1000000000000).bind fun r4=>some r4 else some false else some false else some false else some false
@[simp] def g57_O:Bool → TV × List Blk:=fun r=>((.bool r),[])
def g57_E (a:(Int × Int × Int × Int)):List TV:=[(.agg [(.int .i64 a.1),(.int .i64 a.2.1),(.int .i64 a.2.2.1),(.int .i64 a.2.2.2)])]
theorem g57_run (a_s:Int × Int × Int × Int) :callFn (X g57_S) g57_tf (g57_E a_s) [] = (spec_ValidSuper a_s).map g57_O:=by
  rw [callFn_eq]
  simp (maxSteps:=2000000) (maxDischargeDepth:=8) -implicitDefEqProofs [g57_tf,spec_ValidSuper,g57_E] <;> (try simp only [map_to_bind,some_elim,g57_O])
def g57_r:Rule:=RlO g57_E (fun a=>spec_ValidSuper a) g57_O
theorem g57_ok:RuleOk Tryz.prog 53 g57_r:=ok_rlo (S:=g57_S) (tf:=g57_tf) (SysOk.on ⟨g135_ok,trivial⟩ trivial) (trE_ok (ks:=[]) Tryz.func53 (by kernel_rfl)) fun a=>g57_run a
@[simp] theorem g57_app (y0 y1 y2 y3):g57_r [(.agg [(.int .i64 y0),(.int .i64 y1),(.int .i64 y2),(.int .i64 y3)])] = (spec_ValidSuper ((y0,y1,y2,y3))).map g57_O :=
  RlO_app (enc:=g57_E) (by intro a b h; simp [g57_E,Prod.ext_iff] at h ⊢; simp [h]) ((y0,y1,y2,y3))
/-! spec.l11Pages -/
def g86l1_cb:TC:=(.seq (sq [mo 7 3,mo 8 0,le 9 8,bn 10 .lss (.t 7) (.t 9)] [0,3,10] (.cond (.t 10) .skip (.keep (kp [] [] 0) (.exit 0)))) (.trim [0,3] (.seq (.block 1 (.seq (.draw [([],mo 13 0),([],mo 14 3),([0,1],ia 15 2 13 14),([0,1,2],fa 16 0 15),([0,1,2,3],ld 17 16),([0,1,2,3,4],ca 18 54 [.t 17,ki 0,ki 255]),([0,1,2,3,4,5],nt 19 18),([0,1,2,3,4,5,6],mo 20 19),([0,1,2,3,4,5,6,7],⟨(some 21),(some (20,false)),(.mv (.t 0))⟩),([0,1,2,3,4,5,6,7],⟨(some 22),(some (20,false)),(.mv (.t 3))⟩),([0,1,2,3,4,5,6,7,8,9],⟨(some 23),(some (20,false)),(.iaddr 2 (.t 21) (.t 22))⟩),([0,1,2,3,4,5,6,7,8,9,10],⟨(some 24),(some (20,false)),(.faddr 1 (.t 23))⟩),([0,1,2,3,4,5,6,7,8,9,10,11],⟨(some 25),(some (20,false)),(.load none (.t 24))⟩),([0,1,2,3,4,5,6,7,8,9,10,11,12],⟨(some 26),(some (20,false)),(.len true (.t 25))⟩),([0,1,2,3,4,5,6,7,8,9,10,11,12,13],⟨(some 27),(some (20,false)),(.bin .num .neq (.t 26) (ki 64))⟩),([0,1,2,3,4,5,6,7,8,9,10,11,12,13,14],pk 28 (.t 20) (kb true) (.t 27)),([0,1,2,3,4,5,6,7,8,9,10,11,12,13,14,15],mo 29 28),([0,1,2,3,4,5,6,7,8,9,10,11,12,13,14,15,16],⟨(some 30),(some (29,false)),(.mv (.t 3))⟩),([0,1,2,3,4,5,6,7,8,9,10,11,12,13,14,15,16,17],⟨(some 31),(some (29,false)),(.bin .num .gtr (.t 30) (ki 0))⟩),([0,1,2,3,4,5,6,7,8,9,10,11,12,13,14,15,16,17,18],⟨(some 32),(some (29,false)),(.mv (.t 31))⟩),([0,1,2,3,4,5,6,7,8,9,10,11,12,13,14,15,16,17,18,19],⟨(some 33),(some (32,true)),(.mv (.t 0))⟩),([0,1,2,3,4,5,6,7,8,9,10,11,12,13,14,15,16,17,18,19],⟨(some 34),(some (32,true)),(.mv (.t 3))⟩),([0,1,2,3,4,5,6,7,8,9,10,11,12,13,14,15,16,17,18,19,21],⟨(some 35),(some (32,true)),(.bin .num .sub (.t 34) (ki 1))⟩),([0,1,2,3,4,5,6,7,8,9,10,11,12,13,14,15,16,17,18,19,20,21,22],⟨(some 36),(some (32,true)),(.iaddr 2 (.t 33) (.t 35))⟩),([0,1,2,3,4,5,6,7,8,9,10,11,12,13,14,15,16,17,18,19,20,21,22,23],⟨(some 37),(some (32,true)),(.faddr 0 (.t 36))⟩),([0,1,2,3,4,5,6,7,8,9,10,11,12,13,14,15,16,17,18,19,20,21,22,23,24],⟨(some 38),(some (32,true)),(.load none (.t 37))⟩),([0,1,2,3,4,5,6,7,8,9,10,11,12,13,14,15,16,17,18,19],⟨(some 39),(some (32,true)),(.mv (.t 0))⟩),([0,1,2,3,4,5,6,7,8,9,10,11,12,13,14,15,16,17,18,19],⟨(some 40),(some (32,true)),(.mv (.t 3))⟩),([0,1,2,3,4,5,6,7,8,9,10,11,12,13,14,15,16,17,18,19,26,27],⟨(some 41),(some (32,true)),(.iaddr 2 (.t 39) (.t 40))⟩),([0,1,2,3,4,5,6,7,8,9,10,11,12,13,14,15,16,17,18,19,26,27,28],⟨(some 42),(some (32,true)),(.faddr 0 (.t 41))⟩),([0,1,2,3,4,5,6,7,8,9,10,11,12,13,14,15,16,17,18,19,26,27,28,29],⟨(some 43),(some (32,true)),(.load none (.t 42))⟩)] [⟨(some 44),(some (32,true)),(.bin .num .geq (.t 38) (.t 43))⟩,⟨(some 45),(some (29,false)),(.pick (.t 32) (.t 44) (kb false))⟩,pk 46 (.t 29) (kb true) (.t 45)]) (.trim [0,3,46] (.cond (.t 46) (.seq (.ops [mk 2 (kb false)]) (.keep (kp [(2,0)] [] 0) .ret)) (.keep (kp [(0,0),(3,0)] [] 0) .skip))))) (.trim [0,3] (.after (.ops [mo 11 3,bn 12 .add (.t 11) (ki 1),mo 3 12]) (kp [(0,0),(3,0)] [] 0))))))
def g86l1_c:TC:=.loop [0,3] g86l1_cb
def g86_tf:TFn:=⟨(sq [mk 2 (kb false)] [0] (.seq (sq [mo 4 0,le 5 4,bn 6 .gtr (.t 5) (ki 256)] [0,6] (.cond (.t 6) (.seq (.ops [mk 2 (kb false)]) (.keep (kp [(2,0)] [] 0) .ret)) .skip)) (.trim [0] (.seq (sq [mk 3 (ki 0)] [0,3] (.block 0 (.keep (kp [(0,0),(3,0)] [] 0) g86l1_c))) (.trim [] (.seq (.ops [mk 2 (kb true)]) (.keep (kp [(2,0)] [] 0) .ret))))))),[.t 2]⟩
abbrev g86_S:=Sys.on [(54,g135_r)] []
@[reducible,simp] def g86l1_F:((Unit) ⊕ (Bool)) → Out:=(Sum.elim (fun t=>(.ext 0,[],[])) (fun t=>(.ret,[(2,(.bool t))],[])))
def spec_l11Pages_l1_b (v1:List (Int × Str)) (v2:Int):Option ((Int) ⊕ ((Unit) ⊕ (Bool))):=if v2 < (v1.length:Int) then if 0 ≤ v2 then (v1[(v2).toNat]?).bind fun x3=>(spec_l00In x3.1 0 255).bind fun r4=>if ¬(r4 = true) then some (.inr (.inr false)) else if 0 ≤ v2 then (v1[(v2).toNat]?).bind fun x5=>if ¬((x5.2.length:Int) = 64) then some (.inr (.inr false)) else if v2 > 0 then if 0 ≤ (IntKind.i64.wrap (v2 - 1)) then (v1[((IntKind.i64.wrap (v2 - 1))).toNat]?).bind fun x6=>if 0 ≤ v2 then (v1[(v2).toNat]?).bind fun x7=>if x6.1 ≥ x7.1 then some (.inr (.inr false)) else some (.inl ((IntKind.i64.wrap (v2 + 1)))) else none else none else some (.inl ((IntKind.i64.wrap (v2 + 1)))) else none else none else some (.inr (.inl ()))
theorem g86l1_b_eq  (v1:List (Int × Str)) (v2:Int):X g86_S g86l1_cb (keepEnv [0,3] [(0,(.vs (rows v1))),(3,(.int .i64 v2))]) [] = (spec_l11Pages_l1_b v1 v2).map (Sum.elim (fun s=>(TX.nrm,[(0,(.vs (rows v1))),(3,(.int .i64 s))],[])) g86l1_F):=by
  simp (maxSteps:=2000000) (maxDischargeDepth:=8) -implicitDefEqProofs [g86l1_cb,spec_l11Pages_l1_b] <;> (try simp only [map_to_bind,some_elim,g86l1_F])
def spec_l11Pages_l1 (v1:List (Int × Str)) (s:Int):Option ((Unit) ⊕ (Bool)):=loopO (fun s=>spec_l11Pages_l1_b v1 s) s
@[simp] theorem g86l1_eq (y0 y1):X g86_S g86l1_c [(0,(.vs (rows y0))),(3,(.int .i64 y1))] [] = (spec_l11Pages_l1 y0 y1).map g86l1_F:=by
  exact loop_X _ _ _ _ (by intro r; first | (simp; done) | (rcases r with r | r <;> simp; done) | (rcases r with r | r | r <;> simp; done) | (rcases r with r | r | r | r <;> simp)) (fun s=>g86l1_b_eq  y0 s) y1
def spec_l11Pages (a_list:List (Int × Str)):Option (Bool):=if (a_list.length:Int) > 256 then some false else (spec_l11Pages_l1 a_list 0).bind fun r8=>Sum.elim (fun u9=>some true) (fun u10=>some u10) r8
@[simp] def g86_O:Bool → TV × List Blk:=fun r=>((.bool r),[])
def g86_E (a:(List (Int × Str))):List TV:=[(.vs (rows a))]
theorem g86_run (a_list:List (Int × Str)) :callFn (X g86_S) g86_tf (g86_E a_list) [] = (spec_l11Pages a_list).map g86_O:=by
  rw [callFn_eq]
  simp (maxSteps:=2000000) (maxDischargeDepth:=8) -implicitDefEqProofs [g86_tf,spec_l11Pages,g86_E] <;> (try simp only [map_to_bind,some_elim,g86_O])
def g86_r:Rule:=RlO g86_E (fun a=>spec_l11Pages a) g86_O
theorem g86_ok:RuleOk Tryz.prog 55 g86_r:=ok_rlo (S:=g86_S) (tf:=g86_tf) (SysOk.on ⟨g135_ok,trivial⟩ trivial) (trE_ok (ks:=[[0,3],[31]]) Tryz.func55 (by kernel_rfl)) fun a=>g86_run a
@[simp] theorem g86_app (y0):g86_r [(.vs (rows y0))] = (spec_l11Pages y0).map g86_O :=
  RlO_app (enc:=g86_E) (by intro a b h; simp [g86_E,Prod.ext_iff] at h ⊢; simp [h]) y0
/-! spec.l10Area -/
def g101_tf:TFn:=⟨(sq [bx 1 0,mk 2 (ki 0)] [1] (.seq (.ops [fa 3 1 1,ld 4 3,bn 5 .add (ki 2) (.t 4),mo 2 5]) (.keep (kp [(2,0)] [] 0) .ret))),[.t 2]⟩
abbrev g101_S:=Sys.on [] []
def spec_l10Area (a_s:Int × Int × Int × Int):Option (Int):=some ((IntKind.i64.wrap (2 + a_s.2.1)))
@[simp] def g101_O:Int → TV × List Blk:=fun r=>((.int .i64 r),[])
def g101_E (a:(Int × Int × Int × Int)):List TV:=[(.agg [(.int .i64 a.1),(.int .i64 a.2.1),(.int .i64 a.2.2.1),(.int .i64 a.2.2.2)])]
theorem g101_run (a_s:Int × Int × Int × Int) :callFn (X g101_S) g101_tf (g101_E a_s) [] = (spec_l10Area a_s).map g101_O:=by
  rw [callFn_eq]
  simp (maxSteps:=2000000) (maxDischargeDepth:=8) -implicitDefEqProofs [g101_tf,spec_l10Area,g101_E] <;> (try simp only [map_to_bind,some_elim,g101_O])
def g101_r:Rule:=RlO g101_E (fun a=>spec_l10Area a) g101_O
theorem g101_ok:RuleOk Tryz.prog 94 g101_r:=ok_rlo (S:=g101_S) (tf:=g101_tf) (SysOk.on trivial trivial) (trE_ok (ks:=[]) Tryz.func94 (by kernel_rfl)) fun a=>g101_run a
@[simp] theorem g101_app (y0 y1 y2 y3):g101_r [(.agg [(.int .i64 y0),(.int .i64 y1),(.int .i64 y2),(.int .i64 y3)])] = (spec_l10Area ((y0,y1,y2,y3))).map g101_O :=
  RlO_app (enc:=g101_E) (by intro a b h; simp [g101_E,Prod.ext_iff] at h ⊢; simp [h]) ((y0,y1,y2,y3))
/-! spec.l11Within -/
def g73l1_cb:TC:=(.seq (sq [mo 6 5,mo 7 1,le 8 7,bn 9 .lss (.t 6) (.t 8)] [1,2,5,9] (.cond (.t 9) .skip (.keep (kp [] [] 0) (.exit 0)))) (.trim [1,2,5] (.seq (.block 1 (.seq (.draw [([],mo 12 1),([],mo 13 5),([0,1],ia 14 2 12 13),([0,1,2],fa 15 0 14),([0,1,2,3],ld 16 15),([],ln 17 4 2),([5],ca 18 94 [.t 17]),([],fa 19 0 2),([7],ld 20 19),([7,8],bn 21 .sub (.t 20) (ki 1))] [ca 22 54 [.t 16,.t 18,.t 21],nt 23 22]) (.trim [1,2,5,23] (.cond (.t 23) (.seq (.ops [mk 4 (kb false)]) (.keep (kp [(4,0)] [] 0) .ret)) .skip)))) (.trim [1,2,5] (.after (.ops [mo 10 5,bn 11 .add (.t 10) (ki 1),mo 5 11]) (kp [(1,0),(2,0),(5,0)] [(0,0)] 0))))))
def g73l1_c:TC:=.loop [1,2,5] g73l1_cb
def g73_tf:TFn:=⟨(sq [bx 2 0,mk 4 (kb false)] [1,2] (.seq (sq [mk 5 (ki 0)] [1,2,5] (.block 0 (.keep (kp [(1,0),(2,0),(5,0)] [(0,0)] 0) g73l1_c))) (.trim [] (.seq (.ops [mk 4 (kb true)]) (.keep (kp [(4,0)] [] 0) .ret))))),[.t 4]⟩
abbrev g73_S:=Sys.on [(94,g101_r),(54,g135_r)] []
@[reducible,simp] def g73l1_F:((Unit) ⊕ (Bool)) → Out:=(Sum.elim (fun t=>(.ext 0,[],[])) (fun t=>(.ret,[(4,(.bool t))],[])))
def spec_l11Within_l1_b (v1:List (Int × Str)) (v2:Int × Int × Int × Int) (v3:Int):Option ((Int) ⊕ ((Unit) ⊕ (Bool))):=if v3 < (v1.length:Int) then if 0 ≤ v3 then (v1[(v3).toNat]?).bind fun x4=>(spec_l10Area v2).bind fun r5=>(spec_l00In x4.1 r5 ((IntKind.i64.wrap (v2.1 - 1)))).bind fun r6=>if ¬(r6 = true) then some (.inr (.inr false)) else some (.inl ((IntKind.i64.wrap (v3 + 1)))) else none else some (.inr (.inl ()))
theorem g73l1_b_eq  (v1:List (Int × Str)) (v2:Int × Int × Int × Int) (v3:Int):X g73_S g73l1_cb (keepEnv [1,2,5] [(1,(.vs (rows v1))),(2,(.ptr 0 0 0)),(5,(.int .i64 v3))]) [(.live 4 [[(.int .i64 v2.1),(.int .i64 v2.2.1),(.int .i64 v2.2.2.1),(.int .i64 v2.2.2.2)]])] = (spec_l11Within_l1_b v1 v2 v3).map (Sum.elim (fun s=>(TX.nrm,[(1,(.vs (rows v1))),(2,(.ptr 0 0 0)),(5,(.int .i64 s))],[(.live 4 [[(.int .i64 v2.1),(.int .i64 v2.2.1),(.int .i64 v2.2.2.1),(.int .i64 v2.2.2.2)]])])) g73l1_F):=by
  simp (maxSteps:=2000000) (maxDischargeDepth:=8) -implicitDefEqProofs [g73l1_cb,spec_l11Within_l1_b] <;> (try simp only [map_to_bind,some_elim,g73l1_F])
def spec_l11Within_l1 (v1:List (Int × Str)) (v2:Int × Int × Int × Int) (s:Int):Option ((Unit) ⊕ (Bool)):=loopO (fun s=>spec_l11Within_l1_b v1 v2 s) s
@[simp] theorem g73l1_eq (y0 y1 y2 y3 y4 y5):X g73_S g73l1_c [(1,(.vs (rows y0))),(2,(.ptr 0 0 0)),(5,(.int .i64 y5))] [(.live 4 [[(.int .i64 y1),(.int .i64 y2),(.int .i64 y3),(.int .i64 y4)]])] = (spec_l11Within_l1 y0 ((y1,y2,y3,y4)) y5).map g73l1_F:=by
  exact loop_X _ _ _ _ (by intro r; first | (simp; done) | (rcases r with r | r <;> simp; done) | (rcases r with r | r | r <;> simp; done) | (rcases r with r | r | r | r <;> simp)) (fun s=>g73l1_b_eq  y0 ((y1,y2,y3,y4)) s) y5
def spec_l11Within (a_s:Int × Int × Int × Int) (a_list:List (Int × Str)):Option (Bool):=(spec_l11Within_l1 a_list a_s 0).bind fun r7=>Sum.elim (fun u8=>some true) (fun u9=>some u9) r7
@[simp] def g73_O:Bool → TV × List Blk:=fun r=>((.bool r),[])
def g73_E (a:(Int × Int × Int × Int) × (List (Int × Str))):List TV:=[(.agg [(.int .i64 a.1.1),(.int .i64 a.1.2.1),(.int .i64 a.1.2.2.1),(.int .i64 a.1.2.2.2)]),(.vs (rows a.2))]
theorem g73_run (a_s:Int × Int × Int × Int) (a_list:List (Int × Str)) :callFn (X g73_S) g73_tf (g73_E (a_s,a_list)) [] = (spec_l11Within a_s a_list).map g73_O:=by
  rw [callFn_eq]
  simp (maxSteps:=2000000) (maxDischargeDepth:=8) -implicitDefEqProofs [g73_tf,spec_l11Within,g73_E] <;> (try simp only [map_to_bind,some_elim,g73_O])
def g73_r:Rule:=RlO g73_E (fun a=>spec_l11Within a.1 a.2) g73_O
theorem g73_ok:RuleOk Tryz.prog 56 g73_r:=ok_rlo (S:=g73_S) (tf:=g73_tf) (SysOk.on ⟨g101_ok,g135_ok,trivial⟩ trivial) (trE_ok (ks:=[[1,2,5],[10]]) Tryz.func56 (by kernel_rfl)) fun a=>g73_run a.1 a.2
@[simp] theorem g73_app (y0 y1 y2 y3 y4):g73_r [(.agg [(.int .i64 y0),(.int .i64 y1),(.int .i64 y2),(.int .i64 y3)]),(.vs (rows y4))] = (spec_l11Within ((y0,y1,y2,y3)) y4).map g73_O :=
  RlO_app (enc:=g73_E) (by intro a b h; simp [g73_E,Prod.ext_iff] at h ⊢; simp [h]) ((y0,y1,y2,y3),y4)
/-! spec.l11Table -/
def g87_tf:TFn:=⟨(sq [mk 2 (ki 0)] [0] (.seq (.ops [mo 3 0,bn 4 .mul (ki 2) (.t 3),bn 5 .add (.t 4) (ki 64),bn 6 .sub (.t 5) (ki 1),bn 7 .quo (.t 6) (ki 64),mo 2 7]) (.keep (kp [(2,0)] [] 0) .ret))),[.t 2]⟩
abbrev g87_S:=Sys.on [] []
def spec_l11Table (a_pages:Int):Option (Int):=some ((IntKind.i64.wrap (Int.tdiv ((IntKind.i64.wrap ((IntKind.i64.wrap ((IntKind.i64.wrap (2 * a_pages)) + 64)) - 1))) 64)))
@[simp] def g87_O:Int → TV × List Blk:=fun r=>((.int .i64 r),[])
def g87_E (a:Int):List TV:=[(.int .i64 a)]
theorem g87_run (a_pages:Int) :callFn (X g87_S) g87_tf (g87_E a_pages) [] = (spec_l11Table a_pages).map g87_O:=by
  rw [callFn_eq]
  simp (maxSteps:=2000000) (maxDischargeDepth:=8) -implicitDefEqProofs [g87_tf,spec_l11Table,g87_E] <;> (try simp only [map_to_bind,some_elim,g87_O])
def g87_r:Rule:=RlO g87_E (fun a=>spec_l11Table a) g87_O
theorem g87_ok:RuleOk Tryz.prog 131 g87_r:=ok_rlo (S:=g87_S) (tf:=g87_tf) (SysOk.on trivial trivial) (trE_ok (ks:=[]) Tryz.func131 (by kernel_rfl)) fun a=>g87_run a
@[simp] theorem g87_app (y0):g87_r [(.int .i64 y0)] = (spec_l11Table y0).map g87_O :=
  RlO_app (enc:=g87_E) (by intro a b h; simp [g87_E,Prod.ext_iff] at h ⊢; simp [h]) y0
/-! spec.l11Blocks -/
def g74_tf:TFn:=⟨(sq [mk 2 (ki 0)] [0] (.seq (.ops [mo 3 0,ca 4 131 [.t 3],bn 5 .add (ki 1) (.t 4),mo 6 0,bn 7 .add (.t 5) (.t 6),mo 2 7]) (.keep (kp [(2,0)] [] 0) .ret))),[.t 2]⟩
abbrev g74_S:=Sys.on [(131,g87_r)] []
def spec_l11Blocks (a_pages:Int):Option (Int):=(spec_l11Table a_pages).bind fun r1=>some ((IntKind.i64.wrap ((IntKind.i64.wrap (1 + r1)) + a_pages)))
@[simp] def g74_O:Int → TV × List Blk:=fun r=>((.int .i64 r),[])
def g74_E (a:Int):List TV:=[(.int .i64 a)]
theorem g74_run (a_pages:Int) :callFn (X g74_S) g74_tf (g74_E a_pages) [] = (spec_l11Blocks a_pages).map g74_O:=by
  rw [callFn_eq]
  simp (maxSteps:=2000000) (maxDischargeDepth:=8) -implicitDefEqProofs [g74_tf,spec_l11Blocks,g74_E] <;> (try simp only [map_to_bind,some_elim,g74_O])
def g74_r:Rule:=RlO g74_E (fun a=>spec_l11Blocks a) g74_O
theorem g74_ok:RuleOk Tryz.prog 95 g74_r:=ok_rlo (S:=g74_S) (tf:=g74_tf) (SysOk.on ⟨g87_ok,trivial⟩ trivial) (trE_ok (ks:=[]) Tryz.func95 (by kernel_rfl)) fun a=>g74_run a
@[simp] theorem g74_app (y0):g74_r [(.int .i64 y0)] = (spec_l11Blocks y0).map g74_O :=
  RlO_app (enc:=g74_E) (by intro a b h; simp [g74_E,Prod.ext_iff] at h ⊢; simp [h]) y0
/-! spec.l12Fits -/
def g102_tf:TFn:=⟨(sq [bx 2 0,mk 4 (kb false)] [1,2] (.seq (.after (.draw [([],mo 5 1),([0],bn 6 .eql (.t 5) (ki 0)),([0,1],mo 7 6),([0,1,2],⟨(some 8),(some (7,false)),(.mv (.t 1))⟩),([0,1,2,3],⟨(some 9),(some (7,false)),(.bin .num .leq (.t 8) (ki 60))⟩),([0,1,2,3,4],⟨(some 10),(some (7,false)),(.mv (.t 9))⟩),([0,1,2,3,4,5],⟨(some 11),(some (10,true)),(.mv (.t 1))⟩),([0,1,2,3,4,5,6],⟨(some 12),(some (10,true)),(.call 95 [.t 11])⟩),([0,1,2,3,4,5],⟨(some 13),(some (10,true)),(.faddr 1 (.t 2))⟩),([0,1,2,3,4,5,8],⟨(some 14),(some (10,true)),(.load none (.t 13))⟩)] [⟨(some 15),(some (10,true)),(.bin .num .leq (.t 12) (.t 14))⟩,⟨(some 16),(some (7,false)),(.pick (.t 10) (.t 15) (kb false))⟩,pk 17 (.t 7) (kb true) (.t 16),mo 4 17]) (kp [(4,0)] [] 0)) (.keep (kp [(4,0)] [] 0) .ret))),[.t 4]⟩
abbrev g102_S:=Sys.on [(95,g74_r)] []
def spec_l12Fits (a_s:Int × Int × Int × Int) (a_pages:Int):Option (Bool):=if a_pages = 0 then some true else if a_pages ≤ 60 then (spec_l11Blocks a_pages).bind fun r1=>some ((decide (r1 ≤ a_s.2.1))) else some false
@[simp] def g102_O:Bool → TV × List Blk:=fun r=>((.bool r),[])
def g102_E (a:(Int × Int × Int × Int) × Int):List TV:=[(.agg [(.int .i64 a.1.1),(.int .i64 a.1.2.1),(.int .i64 a.1.2.2.1),(.int .i64 a.1.2.2.2)]),(.int .i64 a.2)]
theorem g102_run (a_s:Int × Int × Int × Int) (a_pages:Int) :callFn (X g102_S) g102_tf (g102_E (a_s,a_pages)) [] = (spec_l12Fits a_s a_pages).map g102_O:=by
  rw [callFn_eq]
  simp (maxSteps:=2000000) (maxDischargeDepth:=8) -implicitDefEqProofs [g102_tf,spec_l12Fits,g102_E] <;> (try simp only [map_to_bind,some_elim,g102_O])
def g102_r:Rule:=RlO g102_E (fun a=>spec_l12Fits a.1 a.2) g102_O
theorem g102_ok:RuleOk Tryz.prog 57 g102_r:=ok_rlo (S:=g102_S) (tf:=g102_tf) (SysOk.on ⟨g74_ok,trivial⟩ trivial) (trE_ok (ks:=[[10]]) Tryz.func57 (by kernel_rfl)) fun a=>g102_run a.1 a.2
@[simp] theorem g102_app (y0 y1 y2 y3 y4):g102_r [(.agg [(.int .i64 y0),(.int .i64 y1),(.int .i64 y2),(.int .i64 y3)]),(.int .i64 y4)] = (spec_l12Fits ((y0,y1,y2,y3)) y4).map g102_O :=
  RlO_app (enc:=g102_E) (by intro a b h; simp [g102_E,Prod.ext_iff] at h ⊢; simp [h]) ((y0,y1,y2,y3),y4)
/-! spec.l12Ok -/
def g137p1_c:TC:=(.seq (.seq (.draw [([],mo 46 0),([0],nk 47 46),([0,1],fa 48 8 47),([0,1,2],ld 49 48),([],fa 50 2 3),([4],ld 51 50),([0,1,2,3,4,5],ca 52 54 [.t 49,.t 51,ki 1000000000000]),([0,1,2,3,4,5,6],nt 53 52),([0,1,2,3,4,5,6,7],mo 54 53),([0,1,2,3,4,5,6,7,8],⟨(some 55),(some (54,false)),(.mv (.t 0))⟩),([0,1,2,3,4,5,6,7,8,9],⟨(some 56),(some (54,false)),(.nilchk (.t 55))⟩),([0,1,2,3,4,5,6,7,8,9,10],⟨(some 57),(some (54,false)),(.faddr 9 (.t 56))⟩),([0,1,2,3,4,5,6,7,8,9,10,11],⟨(some 58),(some (54,false)),(.load none (.t 57))⟩),([0,1,2,3,4,5,6,7,8],⟨(some 59),(some (54,false)),(.faddr 1 (.t 3))⟩),([0,1,2,3,4,5,6,7,8,13],⟨(some 60),(some (54,false)),(.load none (.t 59))⟩),([0,1,2,3,4,5,6,7,8,9,10,11,12,13,14],⟨(some 61),(some (54,false)),(.call 54 [.t 58,ki 0,.t 60])⟩),([0,1,2,3,4,5,6,7,8,9,10,11,12,13,14,15],⟨(some 62),(some (54,false)),(.un .not (.t 61))⟩),([0,1,2,3,4,5,6,7,8,9,10,11,12,13,14,15,16],pk 63 (.t 54) (kb true) (.t 62)),([0,1,2,3,4,5,6,7,8,9,10,11,12,13,14,15,16,17],mo 64 63),([0,1,2,3,4,5,6,7,8,9,10,11,12,13,14,15,16,17,18],⟨(some 65),(some (64,false)),(.mv (.t 0))⟩),([0,1,2,3,4,5,6,7,8,9,10,11,12,13,14,15,16,17,18,19],⟨(some 66),(some (64,false)),(.nilchk (.t 65))⟩),([0,1,2,3,4,5,6,7,8,9,10,11,12,13,14,15,16,17,18,19,20],⟨(some 67),(some (64,false)),(.faddr 10 (.t 66))⟩),([0,1,2,3,4,5,6,7,8,9,10,11,12,13,14,15,16,17,18,19,20,21],⟨(some 68),(some (64,false)),(.load none (.t 67))⟩),([0,1,2,3,4,5,6,7,8,9,10,11,12,13,14,15,16,17,18,19,20,21,22],⟨(some 69),(some (64,false)),(.call 55 [.t 68])⟩),([0,1,2,3,4,5,6,7,8,9,10,11,12,13,14,15,16,17,18,19,20,21,22,23],⟨(some 70),(some (64,false)),(.un .not (.t 69))⟩),([0,1,2,3,4,5,6,7,8,9,10,11,12,13,14,15,16,17,18,19,20,21,22,23,24],pk 71 (.t 64) (kb true) (.t 70)),([0,1,2,3,4,5,6,7,8,9,10,11,12,13,14,15,16,17,18,19,20,21,22,23,24,25],mo 72 71),([0,1,2,3,4,5,6,7,8,9,10,11,12,13,14,15,16,17,18,19,20,21,22,23,24,25,26],⟨(some 73),(some (72,false)),(.mv (.t 0))⟩),([0,1,2,3,4,5,6,7,8,9,10,11,12,13,14,15,16,17,18,19,20,21,22,23,24,25,26,27],⟨(some 74),(some (72,false)),(.nilchk (.t 73))⟩),([0,1,2,3,4,5,6,7,8,9,10,11,12,13,14,15,16,17,18,19,20,21,22,23,24,25,26,27,28],⟨(some 75),(some (72,false)),(.faddr 11 (.t 74))⟩),([0,1,2,3,4,5,6,7,8,9,10,11,12,13,14,15,16,17,18,19,20,21,22,23,24,25,26,27,28,29],⟨(some 76),(some (72,false)),(.load none (.t 75))⟩),([0,1,2,3,4,5,6,7,8,9,10,11,12,13,14,15,16,17,18,19,20,21,22,23,24,25,26,27,28,29,30],⟨(some 77),(some (72,false)),(.call 55 [.t 76])⟩),([0,1,2,3,4,5,6,7,8,9,10,11,12,13,14,15,16,17,18,19,20,21,22,23,24,25,26,27,28,29,30,31],⟨(some 78),(some (72,false)),(.un .not (.t 77))⟩),([0,1,2,3,4,5,6,7,8,9,10,11,12,13,14,15,16,17,18,19,20,21,22,23,24,25,26,27,28,29,30,31,32],pk 79 (.t 72) (kb true) (.t 78)),([0,1,2,3,4,5,6,7,8,9,10,11,12,13,14,15,16,17,18,19,20,21,22,23,24,25,26,27,28,29,30,31,32,33],mo 80 79),([0,1,2,3,4,5,6,7,8,9,10,11,12,13,14,15,16,17,18,19,20,21,22,23,24,25,26,27,28,29,30,31,32,33,34],⟨(some 81),(some (80,false)),(.load (some 4) (.t 3))⟩),([0,1,2,3,4,5,6,7,8,9,10,11,12,13,14,15,16,17,18,19,20,21,22,23,24,25,26,27,28,29,30,31,32,33,34],⟨(some 82),(some (80,false)),(.mv (.t 0))⟩),([0,1,2,3,4,5,6,7,8,9,10,11,12,13,14,15,16,17,18,19,20,21,22,23,24,25,26,27,28,29,30,31,32,33,34,36],⟨(some 83),(some (80,false)),(.nilchk (.t 82))⟩),([0,1,2,3,4,5,6,7,8,9,10,11,12,13,14,15,16,17,18,19,20,21,22,23,24,25,26,27,28,29,30,31,32,33,34,36,37],⟨(some 84),(some (80,false)),(.faddr 10 (.t 83))⟩),([0,1,2,3,4,5,6,7,8,9,10,11,12,13,14,15,16,17,18,19,20,21,22,23,24,25,26,27,28,29,30,31,32,33,34,36,37,38],⟨(some 85),(some (80,false)),(.load none (.t 84))⟩),([0,1,2,3,4,5,6,7,8,9,10,11,12,13,14,15,16,17,18,19,20,21,22,23,24,25,26,27,28,29,30,31,32,33,34,35,36,37,38,39],⟨(some 86),(some (80,false)),(.call 56 [.t 81,.t 85])⟩),([0,1,2,3,4,5,6,7,8,9,10,11,12,13,14,15,16,17,18,19,20,21,22,23,24,25,26,27,28,29,30,31,32,33,34,35,36,37,38,39,40],⟨(some 87),(some (80,false)),(.un .not (.t 86))⟩),([0,1,2,3,4,5,6,7,8,9,10,11,12,13,14,15,16,17,18,19,20,21,22,23,24,25,26,27,28,29,30,31,32,33,34,35,36,37,38,39,40,41],pk 88 (.t 80) (kb true) (.t 87)),([0,1,2,3,4,5,6,7,8,9,10,11,12,13,14,15,16,17,18,19,20,21,22,23,24,25,26,27,28,29,30,31,32,33,34,35,36,37,38,39,40,41,42],mo 89 88),([0,1,2,3,4,5,6,7,8,9,10,11,12,13,14,15,16,17,18,19,20,21,22,23,24,25,26,27,28,29,30,31,32,33,34,35,36,37,38,39,40,41,42,43],⟨(some 90),(some (89,false)),(.load (some 4) (.t 3))⟩),([0,1,2,3,4,5,6,7,8,9,10,11,12,13,14,15,16,17,18,19,20,21,22,23,24,25,26,27,28,29,30,31,32,33,34,35,36,37,38,39,40,41,42,43],⟨(some 91),(some (89,false)),(.mv (.t 0))⟩),([0,1,2,3,4,5,6,7,8,9,10,11,12,13,14,15,16,17,18,19,20,21,22,23,24,25,26,27,28,29,30,31,32,33,34,35,36,37,38,39,40,41,42,43,45],⟨(some 92),(some (89,false)),(.nilchk (.t 91))⟩),([0,1,2,3,4,5,6,7,8,9,10,11,12,13,14,15,16,17,18,19,20,21,22,23,24,25,26,27,28,29,30,31,32,33,34,35,36,37,38,39,40,41,42,43,45,46],⟨(some 93),(some (89,false)),(.faddr 11 (.t 92))⟩),([0,1,2,3,4,5,6,7,8,9,10,11,12,13,14,15,16,17,18,19,20,21,22,23,24,25,26,27,28,29,30,31,32,33,34,35,36,37,38,39,40,41,42,43,45,46,47],⟨(some 94),(some (89,false)),(.load none (.t 93))⟩)] [⟨(some 95),(some (89,false)),(.call 56 [.t 90,.t 94])⟩,⟨(some 96),(some (89,false)),(.un .not (.t 95))⟩,pk 97 (.t 89) (kb true) (.t 96)]) (.trim [0,3,97] (.cond (.t 97) (.seq (.ops [mk 2 (kb false)]) (.keep (kp [(2,0)] [] 0) .ret)) .skip))) (.trim [0,3] (.seq (.draw [([],ln 98 4 3),([],mo 99 0),([1],nk 100 99),([1,2],fa 101 11 100),([1,2,3],ld 102 101),([1,2,3,4],le 103 102)] [ca 104 57 [.t 98,.t 103],mo 2 104]) (.keep (kp [(2,0)] [] 0) .ret))))
def g137_tf:TFn:=⟨(sq [mk 2 (kb false)] [0] (sq [mo 4 0,nk 5 4,fa 6 4 5,ln 7 4 6,oo 3 (.alloc [(.int .i64 0),(.int .i64 0),(.int .i64 0),(.int .i64 0)]),⟨none,none,(.store 4 (.t 3) (.t 7))⟩] [0,3] (.seq (.seq (.draw [([],mo 8 0),([0],nk 9 8),([0,1],fa 10 0 9),([0,1,2],ca 11 52 [.t 10]),([0,1,2,3],nt 12 11),([0,1,2,3,4],mo 13 12),([0,1,2,3,4,5],⟨(some 14),(some (13,false)),(.mv (.t 0))⟩),([0,1,2,3,4,5,6],⟨(some 15),(some (13,false)),(.nilchk (.t 14))⟩),([0,1,2,3,4,5,6,7],⟨(some 16),(some (13,false)),(.faddr 0 (.t 15))⟩),([0,1,2,3,4,5,6,7,8],⟨(some 17),(some (13,false)),(.faddr 1 (.t 16))⟩),([0,1,2,3,4,5,6,7,8,9],⟨(some 18),(some (13,false)),(.load none (.t 17))⟩),([0,1,2,3,4,5,6,7,8,9,10],⟨(some 19),(some (13,false)),(.len false (.t 18))⟩),([0,1,2,3,4,5,6,7,8,9,10,11],⟨(some 20),(some (13,false)),(.bin .num .gtr (.t 19) (ki 1))⟩),([0,1,2,3,4,5,6,7,8,9,10,11,12],⟨(some 21),(some (13,false)),(.mv (.t 20))⟩),([0,1,2,3,4,5,6,7,8,9,10,11,12,13],⟨(some 22),(some (21,true)),(.mv (.t 0))⟩),([0,1,2,3,4,5,6,7,8,9,10,11,12,13,14],⟨(some 23),(some (21,true)),(.nilchk (.t 22))⟩),([0,1,2,3,4,5,6,7,8,9,10,11,12,13,14,15],⟨(some 24),(some (21,true)),(.faddr 0 (.t 23))⟩),([0,1,2,3,4,5,6,7,8,9,10,11,12,13,14,15,16],⟨(some 25),(some (21,true)),(.faddr 3 (.t 24))⟩),([0,1,2,3,4,5,6,7,8,9,10,11,12,13,14,15,16,17],⟨(some 26),(some (21,true)),(.load none (.t 25))⟩),([0,1,2,3,4,5,6,7,8,9,10,11,12,13,14,15,16,17,18],⟨(some 27),(some (21,true)),(.un .not (.t 26))⟩),([0,1,2,3,4,5,6,7,8,9,10,11,12,13,14,15,16,17,18,19],⟨(some 28),(some (13,false)),(.pick (.t 21) (.t 27) (kb false))⟩),([0,1,2,3,4,5,6,7,8,9,10,11,12,13,14,15,16,17,18,19,20],pk 29 (.t 13) (kb true) (.t 28)),([0,1,2,3,4,5,6,7,8,9,10,11,12,13,14,15,16,17,18,19,20,21],mo 30 29),([0,1,2,3,4,5,6,7,8,9,10,11,12,13,14,15,16,17,18,19,20,21,22],⟨(some 31),(some (30,false)),(.load (some 4) (.t 3))⟩),([0,1,2,3,4,5,6,7,8,9,10,11,12,13,14,15,16,17,18,19,20,21,22,23],⟨(some 32),(some (30,false)),(.call 53 [.t 31])⟩),([0,1,2,3,4,5,6,7,8,9,10,11,12,13,14,15,16,17,18,19,20,21,22,23,24],⟨(some 33),(some (30,false)),(.un .not (.t 32))⟩),([0,1,2,3,4,5,6,7,8,9,10,11,12,13,14,15,16,17,18,19,20,21,22,23,24,25],pk 34 (.t 30) (kb true) (.t 33)),([0,1,2,3,4,5,6,7,8,9,10,11,12,13,14,15,16,17,18,19,20,21,22,23,24,25,26],mo 35 34),([0,1,2,3,4,5,6,7,8,9,10,11,12,13,14,15,16,17,18,19,20,21,22,23,24,25,26,27],⟨(some 36),(some (35,false)),(.faddr 0 (.t 3))⟩),([0,1,2,3,4,5,6,7,8,9,10,11,12,13,14,15,16,17,18,19,20,21,22,23,24,25,26,27,28],⟨(some 37),(some (35,false)),(.load none (.t 36))⟩),([0,1,2,3,4,5,6,7,8,9,10,11,12,13,14,15,16,17,18,19,20,21,22,23,24,25,26,27],⟨(some 38),(some (35,false)),(.mv (.t 0))⟩),([0,1,2,3,4,5,6,7,8,9,10,11,12,13,14,15,16,17,18,19,20,21,22,23,24,25,26,27,30],⟨(some 39),(some (35,false)),(.nilchk (.t 38))⟩),([0,1,2,3,4,5,6,7,8,9,10,11,12,13,14,15,16,17,18,19,20,21,22,23,24,25,26,27,30,31],⟨(some 40),(some (35,false)),(.faddr 0 (.t 39))⟩),([0,1,2,3,4,5,6,7,8,9,10,11,12,13,14,15,16,17,18,19,20,21,22,23,24,25,26,27,30,31,32],⟨(some 41),(some (35,false)),(.faddr 0 (.t 40))⟩),([0,1,2,3,4,5,6,7,8,9,10,11,12,13,14,15,16,17,18,19,20,21,22,23,24,25,26,27,30,31,32,33],⟨(some 42),(some (35,false)),(.load none (.t 41))⟩),([0,1,2,3,4,5,6,7,8,9,10,11,12,13,14,15,16,17,18,19,20,21,22,23,24,25,26,27,30,31,32,33,34],⟨(some 43),(some (35,false)),(.len false (.t 42))⟩)] [⟨(some 44),(some (35,false)),(.bin .num .neq (.t 37) (.t 43))⟩,pk 45 (.t 35) (kb true) (.t 44)]) (.trim [0,3,45] (.cond (.t 45) (.seq (.ops [mk 2 (kb false)]) (.keep (kp [(2,0)] [] 0) .ret)) (.keep (kp [(0,0),(3,0)] [(0,0)] 0) .skip)))) (.trim [0,3] g137p1_c)))),[.t 2]⟩
abbrev g137_S:=Sys.on [(52,g136_r),(53,g57_r),(54,g135_r),(55,g86_r),(56,g73_r),(57,g102_r)] []
@[reducible,simp] def g137p1_F:Bool → Out:=(fun t=>(.ret,[(2,(.bool t))],[]))
def spec_l12Ok_p1 (v4:List Str) (v5:List (Int × Str)) (v6:Int) (v7:Bool) (v8:Int) (v9:Int) (v10:Int) (v11:Int) (v12:Int) (v13:Int) (v14:List (Int × Str)) (v15:List (Int × Str)) (v16:Int × Int × Int × Int):Option (Bool):=(spec_l00In v12 v16.2.2.1 1000000000000).bind fun r17=>if ¬(r17 = true) then some false else (spec_l00In v13 0 v16.2.1).bind fun r18=>if ¬(r18 = true) then some false else (spec_l11Pages v14).bind fun r19=>if ¬(r19 = true) then some false else (spec_l11Pages v15).bind fun r20=>if ¬(r20 = true) then some false else (spec_l11Within v16 v14).bind fun r21=>if ¬(r21 = true) then some false else (spec_l11Within v16 v15).bind fun r22=>if ¬(r22 = true) then some false else (spec_l12Fits v16 ((v15.length:Int))).bind fun r23=>some r23
@[simp] theorem g137p1_eq (q0:List TV)(y0 y1 y2 y3 y4 y5 y6 y7 y8 y9 y10 y11 y12 y13 y14 y15):X g137_S g137p1_c [(0,(.vp ((.vs (rows y0))::(.vs (rows y1))::(.int .i64 y2)::(.bool y3)::(.int .i64 y4)::(.int .i64 y5)::(.int .i64 y6)::(.int .i64 y7)::(.int .i64 y8)::(.int .i64 y9)::(.vs (rows y10))::(.vs (rows y11))::q0))),(3,(.ptr 0 0 0))] [(.live 4 [[(.int .i64 y12),(.int .i64 y13),(.int .i64 y14),(.int .i64 y15)]])] = (spec_l12Ok_p1 y0 y1 y2 y3 y4 y5 y6 y7 y8 y9 y10 y11 ((y12,y13,y14,y15))).map g137p1_F:=by
  simp (maxSteps:=2000000) (maxDischargeDepth:=8) -implicitDefEqProofs [g137p1_c,spec_l12Ok_p1] <;> (try simp only [map_to_bind,some_elim,g137p1_F])
def spec_l12Ok (a_p:K1):Option (Bool):=(spec_l09Ok a_p.1).bind fun r1=>if ¬(r1 = true) then some false else if (a_p.1.2.1.length:Int) > 1 then if ¬(a_p.1.2.2.2 = true) then some false else (spec_ValidSuper a_p.2.1).bind fun r2=>if ¬(r2 = true) then some false else if ¬(a_p.2.1.1 = (a_p.1.1.length:Int)) then some false else (spec_l12Ok_p1 a_p.1.1 a_p.1.2.1 a_p.1.2.2.1 a_p.1.2.2.2 a_p.2.1.1 a_p.2.1.2.1 a_p.2.1.2.2.1 a_p.2.1.2.2.2 a_p.2.2.1 a_p.2.2.2.1 a_p.2.2.2.2.1 a_p.2.2.2.2.2 a_p.2.1).bind fun r24=>some r24 else (spec_ValidSuper a_p.2.1).bind fun r3=>if ¬(r3 = true) then some false else if ¬(a_p.2.1.1 = (a_p.1.1.length:Int)) then some false else (spec_l12Ok_p1 a_p.1.1 a_p.1.2.1 a_p.1.2.2.1 a_p.1.2.2.2 a_p.2.1.1 a_p.2.1.2.1 a_p.2.1.2.2.1 a_p.2.1.2.2.2 a_p.2.2.1 a_p.2.2.2.1 a_p.2.2.2.2.1 a_p.2.2.2.2.2 a_p.2.1).bind fun r25=>some r25
@[simp] def g137_O:Bool → TV × List Blk:=fun r=>((.bool r),[])
def g137_E (a:K1 × List TV):List TV:=[(.vp ((.vs (rows a.1.1.1))::(.vs (rows a.1.1.2.1))::(.int .i64 a.1.1.2.2.1)::(.bool a.1.1.2.2.2)::(.int .i64 a.1.2.1.1)::(.int .i64 a.1.2.1.2.1)::(.int .i64 a.1.2.1.2.2.1)::(.int .i64 a.1.2.1.2.2.2)::(.int .i64 a.1.2.2.1)::(.int .i64 a.1.2.2.2.1)::(.vs (rows a.1.2.2.2.2.1))::(.vs (rows a.1.2.2.2.2.2))::a.2))]
theorem g137_run (a_p:K1) (q0:List TV):callFn (X g137_S) g137_tf (g137_E (a_p,q0)) [] = (spec_l12Ok a_p).map g137_O:=by
  rw [callFn_eq]
  simp (maxSteps:=2000000) (maxDischargeDepth:=8) -implicitDefEqProofs [g137_tf,spec_l12Ok,g137_E] <;> (try simp only [map_to_bind,some_elim,g137_O])
def g137_r:Rule:=RlO g137_E (fun a=>spec_l12Ok a.1) g137_O
theorem g137_ok:RuleOk Tryz.prog 25 g137_r:=ok_rlo (S:=g137_S) (tf:=g137_tf) (SysOk.on ⟨g136_ok,g57_ok,g135_ok,g86_ok,g73_ok,g102_ok,trivial⟩ trivial) (trE_ok (ks:=[[36],[49],[6]]) Tryz.func25 (by kernel_rfl)) fun a=>g137_run a.1 a.2
@[simp] theorem g137_app (y0 y1 y2 y3 y4 y5 y6 y7 y8 y9 y10 y11)(q0:List TV):g137_r [(.vp ((.vs (rows y0))::(.vs (rows y1))::(.int .i64 y2)::(.bool y3)::(.int .i64 y4)::(.int .i64 y5)::(.int .i64 y6)::(.int .i64 y7)::(.int .i64 y8)::(.int .i64 y9)::(.vs (rows y10))::(.vs (rows y11))::q0))] = (spec_l12Ok (((y0,y1,y2,y3),(y4,y5,y6,y7),y8,y9,y10,y11))).map g137_O :=
  RlO_app (enc:=g137_E) (by intro a b h; simp [g137_E,Prod.ext_iff] at h ⊢; simp [h]) (((y0,y1,y2,y3),(y4,y5,y6,y7),y8,y9,y10,y11),q0)
/-! spec.l09Own -/
def g122_tf:TFn:=⟨(sq [oo 2 (.alloc [.nils,.nils,(.int .i64 0),(.bool false)])] [0,2] (.seq (.draw [([],oo 3 (.bslice [(.str [])] 0 [])),([],mo 4 0),([1],nk 5 4),([1,2],fa 6 0 5),([1,2,3],ld 7 6),([0,1,2,3,4],oo 8 (.append 9 1 16 (.t 3) (.t 7))),([],oo 9 (.bslice [(.int .i64 0),(.str [])] 0 [])),([],mo 10 0),([7],nk 11 10),([7,8],fa 12 1 11),([7,8,9],ld 13 12),([0,1,2,3,4,5,6,7,8,9,10],oo 14 (.append 135 2 24 (.t 9) (.t 13))),([],mo 15 0),([12],nk 16 15),([12,13],fa 17 2 16),([12,13,14],ld 18 17),([],mo 19 0),([16],nk 20 19),([16,17],fa 21 3 20),([16,17,18],ld 22 21)] [oo 23 (.build [.nils,.nils,(.int .i64 0),(.bool false)] [(0,1,(.t 8)),(1,1,(.t 14)),(2,1,(.t 18)),(3,1,(.t 22))]),⟨none,none,(.store 4 (.t 2) (.t 23))⟩]) (.keep (kp [(2,0)] [(0,2),(1,1),(2,1)] 0) .ret))),[.cell 2 (some 4)]⟩
abbrev g122_S:=Sys.on [] []
def spec_l09Own (a_d:K0):Option (K0):=(appL 16 ([]:List Str) a_d.1).bind fun l1=>(appL 24 ([]:List (Int × Str)) a_d.2.1).bind fun l2=>some ((l1,l2,a_d.2.2.1,a_d.2.2.2))
@[simp] def g122_O:(K0) → TV × List Blk:=fun r=>((.agg [(ow 1 r.1.length),(ow 2 r.2.1.length),(.int .i64 r.2.2.1),(.bool r.2.2.2)]),[(.live 4 [[(ow 1 r.1.length),(ow 2 r.2.1.length),(.int .i64 r.2.2.1),(.bool r.2.2.2)]]),(ob 1 r.1),(ob 2 r.2.1)])
def g122_E (a:K0 × List TV):List TV:=[(.vp ((.vs (rows a.1.1))::(.vs (rows a.1.2.1))::(.int .i64 a.1.2.2.1)::(.bool a.1.2.2.2)::a.2))]
theorem g122_run (a_d:K0) (q0:List TV):callFn (X g122_S) g122_tf (g122_E (a_d,q0)) [] = (spec_l09Own a_d).map g122_O:=by
  rw [callFn_eq]
  simp (maxSteps:=2000000) (maxDischargeDepth:=8) -implicitDefEqProofs [g122_tf,spec_l09Own,g122_E] <;> (try simp only [map_to_bind,some_elim,g122_O])
def g122_r:Rule:=RlO g122_E (fun a=>spec_l09Own a.1) g122_O
theorem g122_ok:RuleOk Tryz.prog 86 g122_r:=ok_rlo (S:=g122_S) (tf:=g122_tf) (SysOk.on trivial trivial) (trE_ok (ks:=[[20]]) Tryz.func86 (by kernel_rfl)) fun a=>g122_run a.1 a.2
@[simp] theorem g122_app (y0 y1 y2 y3)(q0:List TV):g122_r [(.vp ((.vs (rows y0))::(.vs (rows y1))::(.int .i64 y2)::(.bool y3)::q0))] = (spec_l09Own ((y0,y1,y2,y3))).map g122_O :=
  RlO_app (enc:=g122_E) (by intro a b h; simp [g122_E,Prod.ext_iff] at h ⊢; simp [h]) ((y0,y1,y2,y3),q0)
/-! spec.l12Pages -/
def g88_tf:TFn:=⟨(sq [mk 2 (.c .nils)] [0] (.seq (.ops [oo 3 (.bslice [(.int .i64 0),(.str [])] 0 []),mo 4 0,oo 5 (.append 104 2 24 (.t 3) (.t 4)),mo 2 5]) (.keep (kp [(2,1)] [(0,1)] 0) .ret))),[.t 2]⟩
abbrev g88_S:=Sys.on [] []
def spec_l12Pages (a_list:List (Int × Str)):Option ((List (Int × Str))):=(appL 24 ([]:List (Int × Str)) a_list).bind fun l1=>some l1
@[simp] def g88_O:((List (Int × Str))) → TV × List Blk:=fun r=>((ow 0 r.length),[(ob 2 r)])
def g88_E (a:(List (Int × Str))):List TV:=[(.vs (rows a))]
theorem g88_run (a_list:List (Int × Str)) :callFn (X g88_S) g88_tf (g88_E a_list) [] = (spec_l12Pages a_list).map g88_O:=by
  rw [callFn_eq]
  simp (maxSteps:=2000000) (maxDischargeDepth:=8) -implicitDefEqProofs [g88_tf,spec_l12Pages,g88_E] <;> (try simp only [map_to_bind,some_elim,g88_O])
def g88_r:Rule:=RlO g88_E (fun a=>spec_l12Pages a) g88_O
theorem g88_ok:RuleOk Tryz.prog 87 g88_r:=ok_rlo (S:=g88_S) (tf:=g88_tf) (SysOk.on trivial trivial) (trE_ok (ks:=[]) Tryz.func87 (by kernel_rfl)) fun a=>g88_run a
@[simp] theorem g88_app (y0):g88_r [(.vs (rows y0))] = (spec_l12Pages y0).map g88_O :=
  RlO_app (enc:=g88_E) (by intro a b h; simp [g88_E,Prod.ext_iff] at h ⊢; simp [h]) y0
/-! spec.l12Own -/
def g123_tf:TFn:=⟨(sq [oo 2 (.alloc [.nils,.nils,(.int .i64 0),(.bool false),(.int .i64 0),(.int .i64 0),(.int .i64 0),(.int .i64 0),(.int .i64 0),(.int .i64 0),.nils,.nils])] [0,2] (.seq (.draw [([],mo 3 0),([0],nk 4 3),([0,1],fa 5 0 4),([0,1,2],ca 6 86 [.t 5]),([],mo 7 0),([4],nk 8 7),([4,5],fa 9 4 8),([4,5,6],ln 10 4 9),([],mo 11 0),([8],nk 12 11),([8,9],fa 13 8 12),([8,9,10],ld 14 13),([],mo 15 0),([12],nk 16 15),([12,13],fa 17 9 16),([12,13,14],ld 18 17),([],mo 19 0),([16],nk 20 19),([16,17],fa 21 10 20),([16,17,18],ld 22 21),([0,1,2,3,16,17,18,19],ca 23 87 [.t 22]),([],mo 24 0),([21],nk 25 24),([21,22],fa 26 11 25),([21,22,23],ld 27 26),([0,1,2,3,16,17,18,19,20,21,22,23,24],ca 28 87 [.t 27])] [oo 29 (.build [.nils,.nils,(.int .i64 0),(.bool false),(.int .i64 0),(.int .i64 0),(.int .i64 0),(.int .i64 0),(.int .i64 0),(.int .i64 0),.nils,.nils] [(0,4,(.t 6)),(4,4,(.t 10)),(8,1,(.t 14)),(9,1,(.t 18)),(10,1,(.t 23)),(11,1,(.t 28))]),⟨none,none,(.store 12 (.t 2) (.t 29))⟩]) (.keep (kp [(2,0)] [(0,2),(2,1),(3,1),(4,1),(5,1)] 0) .ret))),[.cell 2 (some 12)]⟩
abbrev g123_S:=Sys.on [(86,g122_r),(87,g88_r)] []
def spec_l12Own (a_p:K1):Option (K1):=(spec_l09Own a_p.1).bind fun r1=>(spec_l12Pages a_p.2.2.2.2.1).bind fun r2=>(spec_l12Pages a_p.2.2.2.2.2).bind fun r3=>some ((r1,a_p.2.1,a_p.2.2.1,a_p.2.2.2.1,r2,r3))
@[simp] def g123_O:(K1) → TV × List Blk:=fun r=>((.agg [(ow 1 r.1.1.length),(ow 2 r.1.2.1.length),(.int .i64 r.1.2.2.1),(.bool r.1.2.2.2),(.int .i64 r.2.1.1),(.int .i64 r.2.1.2.1),(.int .i64 r.2.1.2.2.1),(.int .i64 r.2.1.2.2.2),(.int .i64 r.2.2.1),(.int .i64 r.2.2.2.1),(ow 3 r.2.2.2.2.1.length),(ow 4 r.2.2.2.2.2.length)]),[(.live 12 [[(ow 1 r.1.1.length),(ow 2 r.1.2.1.length),(.int .i64 r.1.2.2.1),(.bool r.1.2.2.2),(.int .i64 r.2.1.1),(.int .i64 r.2.1.2.1),(.int .i64 r.2.1.2.2.1),(.int .i64 r.2.1.2.2.2),(.int .i64 r.2.2.1),(.int .i64 r.2.2.2.1),(ow 3 r.2.2.2.2.1.length),(ow 4 r.2.2.2.2.2.length)]]),(ob 1 r.1.1),(ob 2 r.1.2.1),(ob 2 r.2.2.2.2.1),(ob 2 r.2.2.2.2.2)])
def g123_E (a:K1 × List TV):List TV:=[(.vp ((.vs (rows a.1.1.1))::(.vs (rows a.1.1.2.1))::(.int .i64 a.1.1.2.2.1)::(.bool a.1.1.2.2.2)::(.int .i64 a.1.2.1.1)::(.int .i64 a.1.2.1.2.1)::(.int .i64 a.1.2.1.2.2.1)::(.int .i64 a.1.2.1.2.2.2)::(.int .i64 a.1.2.2.1)::(.int .i64 a.1.2.2.2.1)::(.vs (rows a.1.2.2.2.2.1))::(.vs (rows a.1.2.2.2.2.2))::a.2))]
theorem g123_run (a_p:K1) (q0:List TV):callFn (X g123_S) g123_tf (g123_E (a_p,q0)) [] = (spec_l12Own a_p).map g123_O:=by
  rw [callFn_eq]
  simp (maxSteps:=2000000) (maxDischargeDepth:=8) -implicitDefEqProofs [g123_tf,spec_l12Own,g123_E] <;> (try simp only [map_to_bind,some_elim,g123_O])
def g123_r:Rule:=RlO g123_E (fun a=>spec_l12Own a.1) g123_O
theorem g123_ok:RuleOk Tryz.prog 42 g123_r:=ok_rlo (S:=g123_S) (tf:=g123_tf) (SysOk.on ⟨g122_ok,g88_ok,trivial⟩ trivial) (trE_ok (ks:=[[26]]) Tryz.func42 (by kernel_rfl)) fun a=>g123_run a.1 a.2
@[simp] theorem g123_app (y0 y1 y2 y3 y4 y5 y6 y7 y8 y9 y10 y11)(q0:List TV):g123_r [(.vp ((.vs (rows y0))::(.vs (rows y1))::(.int .i64 y2)::(.bool y3)::(.int .i64 y4)::(.int .i64 y5)::(.int .i64 y6)::(.int .i64 y7)::(.int .i64 y8)::(.int .i64 y9)::(.vs (rows y10))::(.vs (rows y11))::q0))] = (spec_l12Own (((y0,y1,y2,y3),(y4,y5,y6,y7),y8,y9,y10,y11))).map g123_O :=
  RlO_app (enc:=g123_E) (by intro a b h; simp [g123_E,Prod.ext_iff] at h ⊢; simp [h]) (((y0,y1,y2,y3),(y4,y5,y6,y7),y8,y9,y10,y11),q0)
/-! spec.l13First -/
def g89_tf:TFn:=⟨(sq [mk 2 (ki 0)] [0] (.seq (.ops [mo 3 0,nk 4 3,fa 5 4 4,ln 6 4 5,ca 7 94 [.t 6],bn 8 .add (.t 7) (ki 1),mo 2 8]) (.keep (kp [(2,0)] [] 0) .ret))),[.t 2]⟩
abbrev g89_S:=Sys.on [(94,g101_r)] []
def spec_l13First (a_p:K1):Option (Int):=(spec_l10Area a_p.2.1).bind fun r1=>some ((IntKind.i64.wrap (r1 + 1)))
@[simp] def g89_O:Int → TV × List Blk:=fun r=>((.int .i64 r),[])
def g89_E (a:K1 × List TV):List TV:=[(.vp ((.vs (rows a.1.1.1))::(.vs (rows a.1.1.2.1))::(.int .i64 a.1.1.2.2.1)::(.bool a.1.1.2.2.2)::(.int .i64 a.1.2.1.1)::(.int .i64 a.1.2.1.2.1)::(.int .i64 a.1.2.1.2.2.1)::(.int .i64 a.1.2.1.2.2.2)::(.int .i64 a.1.2.2.1)::(.int .i64 a.1.2.2.2.1)::(.vs (rows a.1.2.2.2.2.1))::(.vs (rows a.1.2.2.2.2.2))::a.2))]
theorem g89_run (a_p:K1) (q0:List TV):callFn (X g89_S) g89_tf (g89_E (a_p,q0)) [] = (spec_l13First a_p).map g89_O:=by
  rw [callFn_eq]
  simp (maxSteps:=2000000) (maxDischargeDepth:=8) -implicitDefEqProofs [g89_tf,spec_l13First,g89_E] <;> (try simp only [map_to_bind,some_elim,g89_O])
def g89_r:Rule:=RlO g89_E (fun a=>spec_l13First a.1) g89_O
theorem g89_ok:RuleOk Tryz.prog 132 g89_r:=ok_rlo (S:=g89_S) (tf:=g89_tf) (SysOk.on ⟨g101_ok,trivial⟩ trivial) (trE_ok (ks:=[]) Tryz.func132 (by kernel_rfl)) fun a=>g89_run a.1 a.2
@[simp] theorem g89_app (y0 y1 y2 y3 y4 y5 y6 y7 y8 y9 y10 y11)(q0:List TV):g89_r [(.vp ((.vs (rows y0))::(.vs (rows y1))::(.int .i64 y2)::(.bool y3)::(.int .i64 y4)::(.int .i64 y5)::(.int .i64 y6)::(.int .i64 y7)::(.int .i64 y8)::(.int .i64 y9)::(.vs (rows y10))::(.vs (rows y11))::q0))] = (spec_l13First (((y0,y1,y2,y3),(y4,y5,y6,y7),y8,y9,y10,y11))).map g89_O :=
  RlO_app (enc:=g89_E) (by intro a b h; simp [g89_E,Prod.ext_iff] at h ⊢; simp [h]) (((y0,y1,y2,y3),(y4,y5,y6,y7),y8,y9,y10,y11),q0)
/-! spec.l13Data -/
def g103_tf:TFn:=⟨(sq [mk 6 (kb false)] [0,1,2] (.seq (.after (.draw [([],mo 7 2),([0],ca 8 54 [.t 7,ki 1,ki 256]),([0,1],mo 9 8),([0,1,2],⟨(some 10),(some (9,true)),(.mv (.t 1))⟩),([0,1,2],⟨(some 11),(some (9,true)),(.mv (.t 0))⟩),([0,1,2,4],⟨(some 12),(some (9,true)),(.call 132 [.t 11])⟩),([0,1,2],⟨(some 13),(some (9,true)),(.mv (.t 0))⟩),([0,1,2,6],⟨(some 14),(some (9,true)),(.nilchk (.t 13))⟩),([0,1,2,6,7],⟨(some 15),(some (9,true)),(.faddr 4 (.t 14))⟩),([0,1,2,6,7,8],⟨(some 16),(some (9,true)),(.faddr 0 (.t 15))⟩),([0,1,2,6,7,8,9],⟨(some 17),(some (9,true)),(.load none (.t 16))⟩),([0,1,2,6,7,8,9,10],⟨(some 18),(some (9,true)),(.bin .num .sub (.t 17) (ki 1))⟩),([0,1,2,3,4,5,6,7,8,9,10,11],⟨(some 19),(some (9,true)),(.call 54 [.t 10,.t 12,.t 18])⟩),([0,1,2,3,4,5,6,7,8,9,10,11,12],pk 20 (.t 9) (.t 19) (kb false)),([0,1,2,3,4,5,6,7,8,9,10,11,12,13],mo 21 20),([0,1,2,3,4,5,6,7,8,9,10,11,12,13,14],⟨(some 22),(some (21,true)),(.mv (.t 1))⟩),([0,1,2,3,4,5,6,7,8,9,10,11,12,13,14],⟨(some 23),(some (21,true)),(.mv (.t 2))⟩),([0,1,2,3,4,5,6,7,8,9,10,11,12,13,14,15,16],⟨(some 24),(some (21,true)),(.bin .num .add (.t 22) (.t 23))⟩),([0,1,2,3,4,5,6,7,8,9,10,11,12,13,14],⟨(some 25),(some (21,true)),(.mv (.t 0))⟩),([0,1,2,3,4,5,6,7,8,9,10,11,12,13,14,18],⟨(some 26),(some (21,true)),(.nilchk (.t 25))⟩),([0,1,2,3,4,5,6,7,8,9,10,11,12,13,14,18,19],⟨(some 27),(some (21,true)),(.faddr 4 (.t 26))⟩),([0,1,2,3,4,5,6,7,8,9,10,11,12,13,14,18,19,20],⟨(some 28),(some (21,true)),(.faddr 0 (.t 27))⟩),([0,1,2,3,4,5,6,7,8,9,10,11,12,13,14,18,19,20,21],⟨(some 29),(some (21,true)),(.load none (.t 28))⟩)] [⟨(some 30),(some (21,true)),(.bin .num .leq (.t 24) (.t 29))⟩,pk 31 (.t 21) (.t 30) (kb false),mo 6 31]) (kp [(6,0)] [] 0)) (.keep (kp [(6,0)] [] 0) .ret))),[.t 6]⟩
abbrev g103_S:=Sys.on [(54,g135_r),(132,g89_r)] []
def spec_l13Data (a_p:K1) (a_at:Int) (a_n:Int):Option (Bool):=(spec_l00In a_n 1 256).bind fun r1=>if r1 = true then (spec_l13First a_p).bind fun r2=>(spec_l00In a_at r2 ((IntKind.i64.wrap (a_p.2.1.1 - 1)))).bind fun r3=>if r3 = true then some ((decide ((IntKind.i64.wrap (a_at + a_n)) ≤ a_p.2.1.1))) else some false else some false
@[simp] def g103_O:Bool → TV × List Blk:=fun r=>((.bool r),[])
def g103_E (a:K1 × Int × Int × List TV):List TV:=[(.vp ((.vs (rows a.1.1.1))::(.vs (rows a.1.1.2.1))::(.int .i64 a.1.1.2.2.1)::(.bool a.1.1.2.2.2)::(.int .i64 a.1.2.1.1)::(.int .i64 a.1.2.1.2.1)::(.int .i64 a.1.2.1.2.2.1)::(.int .i64 a.1.2.1.2.2.2)::(.int .i64 a.1.2.2.1)::(.int .i64 a.1.2.2.2.1)::(.vs (rows a.1.2.2.2.2.1))::(.vs (rows a.1.2.2.2.2.2))::a.2.2.2)),(.int .i64 a.2.1),(.int .i64 a.2.2.1)]
theorem g103_run (a_p:K1) (a_at:Int) (a_n:Int) (q0:List TV):callFn (X g103_S) g103_tf (g103_E (a_p,a_at,a_n,q0)) [] = (spec_l13Data a_p a_at a_n).map g103_O:=by
  rw [callFn_eq]
  simp (maxSteps:=2000000) (maxDischargeDepth:=8) -implicitDefEqProofs [g103_tf,spec_l13Data,g103_E] <;> (try simp only [map_to_bind,some_elim,g103_O])
def g103_r:Rule:=RlO g103_E (fun a=>spec_l13Data a.1 a.2.1 a.2.2.1) g103_O
theorem g103_ok:RuleOk Tryz.prog 96 g103_r:=ok_rlo (S:=g103_S) (tf:=g103_tf) (SysOk.on ⟨g135_ok,g89_ok,trivial⟩ trivial) (trE_ok (ks:=[[23]]) Tryz.func96 (by kernel_rfl)) fun a=>g103_run a.1 a.2.1 a.2.2.1 a.2.2.2
@[simp] theorem g103_app (y0 y1 y2 y3 y4 y5 y6 y7 y8 y9 y10 y11 y12 y13)(q0:List TV):g103_r [(.vp ((.vs (rows y0))::(.vs (rows y1))::(.int .i64 y2)::(.bool y3)::(.int .i64 y4)::(.int .i64 y5)::(.int .i64 y6)::(.int .i64 y7)::(.int .i64 y8)::(.int .i64 y9)::(.vs (rows y10))::(.vs (rows y11))::q0)),(.int .i64 y12),(.int .i64 y13)] = (spec_l13Data (((y0,y1,y2,y3),(y4,y5,y6,y7),y8,y9,y10,y11)) y12 y13).map g103_O :=
  RlO_app (enc:=g103_E) (by intro a b h; simp [g103_E,Prod.ext_iff] at h ⊢; simp [h]) (((y0,y1,y2,y3),(y4,y5,y6,y7),y8,y9,y10,y11),y12,y13,q0)
/-! spec.l11Find -/
def g104l1_cb:TC:=(.seq (sq [mo 6 5,mo 7 0,le 8 7,bn 9 .lss (.t 6) (.t 8)] [0,1,5,9] (.cond (.t 9) .skip (.keep (kp [] [] 0) (.exit 0)))) (.trim [0,1,5] (.seq (.block 1 (sq [mo 12 0,mo 13 5,ia 14 2 12 13,fa 15 0 14,ld 16 15,mo 17 1,bn 18 .eql (.t 16) (.t 17)] [0,1,5,18] (.cond (.t 18) (.seq (.ops [mo 19 5,mo 4 19]) (.keep (kp [(4,0)] [] 0) .ret)) .skip))) (.trim [0,1,5] (.after (.ops [mo 10 5,bn 11 .add (.t 10) (ki 1),mo 5 11]) (kp [(0,0),(1,0),(5,0)] [] 0))))))
def g104l1_c:TC:=.loop [0,1,5] g104l1_cb
def g104_tf:TFn:=⟨(sq [mk 4 (ki 0)] [0,1] (.seq (sq [mk 5 (ki 0)] [0,1,5] (.block 0 (.keep (kp [(0,0),(1,0),(5,0)] [] 0) g104l1_c))) (.trim [] (.seq (.ops [mk 4 (ki (-1))]) (.keep (kp [(4,0)] [] 0) .ret))))),[.t 4]⟩
abbrev g104_S:=Sys.on [] []
@[reducible,simp] def g104l1_F:((Unit) ⊕ (Int)) → Out:=(Sum.elim (fun t=>(.ext 0,[],[])) (fun t=>(.ret,[(4,(.int .i64 t))],[])))
def spec_l11Find_l1_b (v1:List (Int × Str)) (v2:Int) (v3:Int):Option ((Int) ⊕ ((Unit) ⊕ (Int))):=if v3 < (v1.length:Int) then if 0 ≤ v3 then (v1[(v3).toNat]?).bind fun x4=>if x4.1 = v2 then some (.inr (.inr v3)) else some (.inl ((IntKind.i64.wrap (v3 + 1)))) else none else some (.inr (.inl ()))
theorem g104l1_b_eq  (v1:List (Int × Str)) (v2:Int) (v3:Int):X g104_S g104l1_cb (keepEnv [0,1,5] [(0,(.vs (rows v1))),(1,(.int .i64 v2)),(5,(.int .i64 v3))]) [] = (spec_l11Find_l1_b v1 v2 v3).map (Sum.elim (fun s=>(TX.nrm,[(0,(.vs (rows v1))),(1,(.int .i64 v2)),(5,(.int .i64 s))],[])) g104l1_F):=by
  simp (maxSteps:=2000000) (maxDischargeDepth:=8) -implicitDefEqProofs [g104l1_cb,spec_l11Find_l1_b] <;> (try simp only [map_to_bind,some_elim,g104l1_F])
def spec_l11Find_l1 (v1:List (Int × Str)) (v2:Int) (s:Int):Option ((Unit) ⊕ (Int)):=loopO (fun s=>spec_l11Find_l1_b v1 v2 s) s
@[simp] theorem g104l1_eq (y0 y1 y2):X g104_S g104l1_c [(0,(.vs (rows y0))),(1,(.int .i64 y1)),(5,(.int .i64 y2))] [] = (spec_l11Find_l1 y0 y1 y2).map g104l1_F:=by
  exact loop_X _ _ _ _ (by intro r; first | (simp; done) | (rcases r with r | r <;> simp; done) | (rcases r with r | r | r <;> simp; done) | (rcases r with r | r | r | r <;> simp)) (fun s=>g104l1_b_eq  y0 y1 s) y2
def spec_l11Find (a_list:List (Int × Str)) (a_block:Int):Option (Int):=(spec_l11Find_l1 a_list a_block 0).bind fun r5=>Sum.elim (fun u6=>some ((-1))) (fun u7=>some u7) r5
@[simp] def g104_O:Int → TV × List Blk:=fun r=>((.int .i64 r),[])
def g104_E (a:(List (Int × Str)) × Int):List TV:=[(.vs (rows a.1)),(.int .i64 a.2)]
theorem g104_run (a_list:List (Int × Str)) (a_block:Int) :callFn (X g104_S) g104_tf (g104_E (a_list,a_block)) [] = (spec_l11Find a_list a_block).map g104_O:=by
  rw [callFn_eq]
  simp (maxSteps:=2000000) (maxDischargeDepth:=8) -implicitDefEqProofs [g104_tf,spec_l11Find,g104_E] <;> (try simp only [map_to_bind,some_elim,g104_O])
def g104_r:Rule:=RlO g104_E (fun a=>spec_l11Find a.1 a.2) g104_O
theorem g104_ok:RuleOk Tryz.prog 99 g104_r:=ok_rlo (S:=g104_S) (tf:=g104_tf) (SysOk.on trivial trivial) (trE_ok (ks:=[[0,1,5]]) Tryz.func99 (by kernel_rfl)) fun a=>g104_run a.1 a.2
@[simp] theorem g104_app (y0 y1):g104_r [(.vs (rows y0)),(.int .i64 y1)] = (spec_l11Find y0 y1).map g104_O :=
  RlO_app (enc:=g104_E) (by intro a b h; simp [g104_E,Prod.ext_iff] at h ⊢; simp [h]) (y0,y1)
/-! spec.l09Read -/
def g105l1_cb:TC:=(.seq (sq [mo 12 5,bn 13 .geq (.t 12) (ki 0)] [0,1,5,13] (.cond (.t 13) .skip (.keep (kp [(0,0),(1,0)] [] 0) (.exit 0)))) (.trim [0,1,5] (.seq (.block 1 (sq [mo 16 0,nk 17 16,fa 18 1 17,ld 19 18,mo 20 5,ia 21 2 19 20,fa 22 0 21,ld 23 22,mo 24 1,bn 25 .eql (.t 23) (.t 24)] [0,1,5,25] (.cond (.t 25) (.seq (.ops [mo 26 0,nk 27 26,fa 28 1 27,ld 29 28,mo 30 5,ia 31 2 29 30,fa 32 1 31,ld 33 32,mo 4 33]) (.keep (kp [(4,0)] [] 0) .ret)) .skip))) (.trim [0,1,5] (.after (.ops [mo 14 5,bn 15 .sub (.t 14) (ki 1),mo 5 15]) (kp [(0,0),(1,0),(5,0)] [] 0))))))
def g105l1_c:TC:=.loop [0,1,5] g105l1_cb
def g105_tf:TFn:=⟨(sq [mk 4 (.c (.str []))] [0,1] (.seq (sq [mo 6 0,nk 7 6,fa 8 1 7,ld 9 8,le 10 9,bn 11 .sub (.t 10) (ki 1),mo 5 11] [0,1,5] (.block 0 (.keep (kp [(0,0),(1,0),(5,0)] [] 0) g105l1_c))) (.trim [0,1] (.seq (.ops [mo 34 0,nk 35 34,fa 36 0 35,ld 37 36,mo 38 1,ia 39 1 37 38,ld 40 39,mo 4 40]) (.keep (kp [(4,0)] [] 0) .ret))))),[.t 4]⟩
abbrev g105_S:=Sys.on [] []
def spec_l09Read_l1_b (v1:List Str) (v2:List (Int × Str)) (v3:Int) (v4:Bool) (v5:Int) (v6:Int):Option ((Int) ⊕ ((List Str × (List (Int × Str)) × Int × Bool × Int) ⊕ (Str))):=if v6 ≥ 0 then if 0 ≤ v6 then (v2[(v6).toNat]?).bind fun x7=>if x7.1 = v5 then if 0 ≤ v6 then (v2[(v6).toNat]?).bind fun x8=>some (.inr (.inr x8.2)) else none else some (.inl ((IntKind.i64.wrap (v6 - 1)))) else none else some (.inr (.inl (v1,v2,v3,v4,v5)))
theorem g105l1_b_eq (q0:List TV) (v1:List Str) (v2:List (Int × Str)) (v3:Int) (v4:Bool) (v5:Int) (v6:Int):X g105_S g105l1_cb (keepEnv [0,1,5] [(0,(.vp ((.vs (rows v1))::(.vs (rows v2))::(.int .i64 v3)::(.bool v4)::q0))),(1,(.int .i64 v5)),(5,(.int .i64 v6))]) [] = (spec_l09Read_l1_b v1 v2 v3 v4 v5 v6).map (Sum.elim (fun s=>(TX.nrm,[(0,(.vp ((.vs (rows v1))::(.vs (rows v2))::(.int .i64 v3)::(.bool v4)::q0))),(1,(.int .i64 v5)),(5,(.int .i64 s))],[])) (Sum.elim (fun t=>(.ext 0,[(0,(.vp ((.vs (rows t.1))::(.vs (rows t.2.1))::(.int .i64 t.2.2.1)::(.bool t.2.2.2.1)::q0))),(1,(.int .i64 t.2.2.2.2))],[])) (fun t=>(.ret,[(4,(.str t))],[])))):=by
  simp (maxSteps:=2000000) (maxDischargeDepth:=8) -implicitDefEqProofs [g105l1_cb,spec_l09Read_l1_b] <;> (try simp only [map_to_bind,some_elim])
def spec_l09Read_l1 (v1:List Str) (v2:List (Int × Str)) (v3:Int) (v4:Bool) (v5:Int) (s:Int):Option ((List Str × (List (Int × Str)) × Int × Bool × Int) ⊕ (Str)):=loopO (fun s=>spec_l09Read_l1_b v1 v2 v3 v4 v5 s) s
@[simp] theorem g105l1_eq (q0:List TV)(y0 y1 y2 y3 y4 y5):X g105_S g105l1_c [(0,(.vp ((.vs (rows y0))::(.vs (rows y1))::(.int .i64 y2)::(.bool y3)::q0))),(1,(.int .i64 y4)),(5,(.int .i64 y5))] [] = (spec_l09Read_l1 y0 y1 y2 y3 y4 y5).map (Sum.elim (fun t=>(.ext 0,[(0,(.vp ((.vs (rows t.1))::(.vs (rows t.2.1))::(.int .i64 t.2.2.1)::(.bool t.2.2.2.1)::q0))),(1,(.int .i64 t.2.2.2.2))],[])) (fun t=>(.ret,[(4,(.str t))],[]))):=by
  exact loop_X _ _ _ _ (by intro r; first | (simp; done) | (rcases r with r | r <;> simp; done) | (rcases r with r | r | r <;> simp; done) | (rcases r with r | r | r | r <;> simp)) (fun s=>g105l1_b_eq q0 y0 y1 y2 y3 y4 s) y5
def spec_l09Read (a_d:K0) (a_k:Int):Option (Str):=(spec_l09Read_l1 a_d.1 a_d.2.1 a_d.2.2.1 a_d.2.2.2 a_k (((IntKind.i64.wrap ((a_d.2.1.length:Int) - 1))))).bind fun r9=>Sum.elim (fun u10=>if 0 ≤ u10.2.2.2.2 then (u10.1[(u10.2.2.2.2).toNat]?).bind fun x12=>some x12 else none) (fun u11=>some u11) r9
@[simp] def g105_O:Str → TV × List Blk:=fun r=>((.str r),[])
def g105_E (a:K0 × Int × List TV):List TV:=[(.vp ((.vs (rows a.1.1))::(.vs (rows a.1.2.1))::(.int .i64 a.1.2.2.1)::(.bool a.1.2.2.2)::a.2.2)),(.int .i64 a.2.1)]
theorem g105_run (a_d:K0) (a_k:Int) (q0:List TV):callFn (X g105_S) g105_tf (g105_E (a_d,a_k,q0)) [] = (spec_l09Read a_d a_k).map g105_O:=by
  rw [callFn_eq]
  simp (maxSteps:=2000000) (maxDischargeDepth:=8) -implicitDefEqProofs [g105_tf,spec_l09Read,g105_E] <;> (try simp only [map_to_bind,some_elim,g105_O])
def g105_r:Rule:=RlO g105_E (fun a=>spec_l09Read a.1 a.2.1) g105_O
theorem g105_ok:RuleOk Tryz.prog 100 g105_r:=ok_rlo (S:=g105_S) (tf:=g105_tf) (SysOk.on trivial trivial) (trE_ok (ks:=[[0,1,5]]) Tryz.func100 (by kernel_rfl)) fun a=>g105_run a.1 a.2.1 a.2.2
@[simp] theorem g105_app (y0 y1 y2 y3 y4)(q0:List TV):g105_r [(.vp ((.vs (rows y0))::(.vs (rows y1))::(.int .i64 y2)::(.bool y3)::q0)),(.int .i64 y4)] = (spec_l09Read ((y0,y1,y2,y3)) y4).map g105_O :=
  RlO_app (enc:=g105_E) (by intro a b h; simp [g105_E,Prod.ext_iff] at h ⊢; simp [h]) ((y0,y1,y2,y3),y4,q0)
/-! spec.l12Get -/
def g124_tf:TFn:=⟨(sq [mk 4 (.c (.str []))] [0,1] (.seq (sq [mo 7 0,nk 8 7,fa 9 11 8,ld 10 9,mo 11 1,ca 12 99 [.t 10,.t 11],mo 5 12] [0,1,5] (sq [mo 13 5,bn 14 .geq (.t 13) (ki 0)] [0,1,5,14] (.cond (.t 14) (.seq (.ops [mo 15 0,nk 16 15,fa 17 11 16,ld 18 17,mo 19 5,ia 20 2 18 19,fa 21 1 20,ld 22 21,mo 4 22]) (.keep (kp [(4,0)] [] 0) .ret)) .skip))) (.trim [0,1] (.seq (sq [mo 23 0,nk 24 23,fa 25 10 24,ld 26 25,mo 27 1,ca 28 99 [.t 26,.t 27],mo 6 28] [0,1,6] (sq [mo 29 6,bn 30 .geq (.t 29) (ki 0)] [0,1,6,30] (.cond (.t 30) (.seq (.ops [mo 31 0,nk 32 31,fa 33 10 32,ld 34 33,mo 35 6,ia 36 2 34 35,fa 37 1 36,ld 38 37,mo 4 38]) (.keep (kp [(4,0)] [] 0) .ret)) .skip))) (.trim [0,1] (.seq (.ops [mo 39 0,nk 40 39,fa 41 0 40,mo 42 1,ca 43 100 [.t 41,.t 42],mo 4 43]) (.keep (kp [(4,0)] [] 0) .ret))))))),[.t 4]⟩
abbrev g124_S:=Sys.on [(99,g104_r),(100,g105_r)] []
def spec_l12Get (a_p:K1) (a_k:Int):Option (Str):=(spec_l11Find a_p.2.2.2.2.2 a_k).bind fun r1=>if r1 ≥ 0 then if 0 ≤ r1 then (a_p.2.2.2.2.2[(r1).toNat]?).bind fun x2=>some x2.2 else none else (spec_l11Find a_p.2.2.2.2.1 a_k).bind fun r3=>if r3 ≥ 0 then if 0 ≤ r3 then (a_p.2.2.2.2.1[(r3).toNat]?).bind fun x4=>some x4.2 else none else (spec_l09Read a_p.1 a_k).bind fun r5=>some r5
@[simp] def g124_O:Str → TV × List Blk:=fun r=>((.str r),[])
def g124_E (a:K1 × Int × List TV):List TV:=[(.vp ((.vs (rows a.1.1.1))::(.vs (rows a.1.1.2.1))::(.int .i64 a.1.1.2.2.1)::(.bool a.1.1.2.2.2)::(.int .i64 a.1.2.1.1)::(.int .i64 a.1.2.1.2.1)::(.int .i64 a.1.2.1.2.2.1)::(.int .i64 a.1.2.1.2.2.2)::(.int .i64 a.1.2.2.1)::(.int .i64 a.1.2.2.2.1)::(.vs (rows a.1.2.2.2.2.1))::(.vs (rows a.1.2.2.2.2.2))::a.2.2)),(.int .i64 a.2.1)]
theorem g124_run (a_p:K1) (a_k:Int) (q0:List TV):callFn (X g124_S) g124_tf (g124_E (a_p,a_k,q0)) [] = (spec_l12Get a_p a_k).map g124_O:=by
  rw [callFn_eq]
  simp (maxSteps:=2000000) (maxDischargeDepth:=8) -implicitDefEqProofs [g124_tf,spec_l12Get,g124_E] <;> (try simp only [map_to_bind,some_elim,g124_O])
def g124_r:Rule:=RlO g124_E (fun a=>spec_l12Get a.1 a.2.1) g124_O
theorem g124_ok:RuleOk Tryz.prog 60 g124_r:=ok_rlo (S:=g124_S) (tf:=g124_tf) (SysOk.on ⟨g104_ok,g105_ok,trivial⟩ trivial) (trE_ok (ks:=[]) Tryz.func60 (by kernel_rfl)) fun a=>g124_run a.1 a.2.1 a.2.2
@[simp] theorem g124_app (y0 y1 y2 y3 y4 y5 y6 y7 y8 y9 y10 y11 y12)(q0:List TV):g124_r [(.vp ((.vs (rows y0))::(.vs (rows y1))::(.int .i64 y2)::(.bool y3)::(.int .i64 y4)::(.int .i64 y5)::(.int .i64 y6)::(.int .i64 y7)::(.int .i64 y8)::(.int .i64 y9)::(.vs (rows y10))::(.vs (rows y11))::q0)),(.int .i64 y12)] = (spec_l12Get (((y0,y1,y2,y3),(y4,y5,y6,y7),y8,y9,y10,y11)) y12).map g124_O :=
  RlO_app (enc:=g124_E) (by intro a b h; simp [g124_E,Prod.ext_iff] at h ⊢; simp [h]) (((y0,y1,y2,y3),(y4,y5,y6,y7),y8,y9,y10,y11),y12,q0)
/-! spec.l13Area -/
def g106_tf:TFn:=⟨(sq [mk 2 (.c (.str []))] [0] (.seq (.ops [mo 3 0,mo 4 0,nk 5 4,fa 6 4 5,ln 7 4 6,ca 8 94 [.t 7],ca 9 60 [.t 3,.t 8],mo 2 9]) (.keep (kp [(2,0)] [] 0) .ret))),[.t 2]⟩
abbrev g106_S:=Sys.on [(94,g101_r),(60,g124_r)] []
def spec_l13Area (a_p:K1):Option (Str):=(spec_l10Area a_p.2.1).bind fun r1=>(spec_l12Get a_p r1).bind fun r2=>some r2
@[simp] def g106_O:Str → TV × List Blk:=fun r=>((.str r),[])
def g106_E (a:K1 × List TV):List TV:=[(.vp ((.vs (rows a.1.1.1))::(.vs (rows a.1.1.2.1))::(.int .i64 a.1.1.2.2.1)::(.bool a.1.1.2.2.2)::(.int .i64 a.1.2.1.1)::(.int .i64 a.1.2.1.2.1)::(.int .i64 a.1.2.1.2.2.1)::(.int .i64 a.1.2.1.2.2.2)::(.int .i64 a.1.2.2.1)::(.int .i64 a.1.2.2.2.1)::(.vs (rows a.1.2.2.2.2.1))::(.vs (rows a.1.2.2.2.2.2))::a.2))]
theorem g106_run (a_p:K1) (q0:List TV):callFn (X g106_S) g106_tf (g106_E (a_p,q0)) [] = (spec_l13Area a_p).map g106_O:=by
  rw [callFn_eq]
  simp (maxSteps:=2000000) (maxDischargeDepth:=8) -implicitDefEqProofs [g106_tf,spec_l13Area,g106_E] <;> (try simp only [map_to_bind,some_elim,g106_O])
def g106_r:Rule:=RlO g106_E (fun a=>spec_l13Area a.1) g106_O
theorem g106_ok:RuleOk Tryz.prog 98 g106_r:=ok_rlo (S:=g106_S) (tf:=g106_tf) (SysOk.on ⟨g101_ok,g124_ok,trivial⟩ trivial) (trE_ok (ks:=[]) Tryz.func98 (by kernel_rfl)) fun a=>g106_run a.1 a.2
@[simp] theorem g106_app (y0 y1 y2 y3 y4 y5 y6 y7 y8 y9 y10 y11)(q0:List TV):g106_r [(.vp ((.vs (rows y0))::(.vs (rows y1))::(.int .i64 y2)::(.bool y3)::(.int .i64 y4)::(.int .i64 y5)::(.int .i64 y6)::(.int .i64 y7)::(.int .i64 y8)::(.int .i64 y9)::(.vs (rows y10))::(.vs (rows y11))::q0))] = (spec_l13Area (((y0,y1,y2,y3),(y4,y5,y6,y7),y8,y9,y10,y11))).map g106_O :=
  RlO_app (enc:=g106_E) (by intro a b h; simp [g106_E,Prod.ext_iff] at h ⊢; simp [h]) (((y0,y1,y2,y3),(y4,y5,y6,y7),y8,y9,y10,y11),q0)
/-! spec.l13Bit -/
def g125_tf:TFn:=⟨(sq [mk 4 (kb false)] [0,1] (.seq (.ops [mo 5 0,mo 6 1,bn 7 .quo (.t 6) (ki 8),bn 8 .add (ki 4) (.t 7),oo 9 (.index (.t 5) (.t 8)),mo 10 1,bn 11 .rem (.t 10) (ki 8),oo 12 (.conv (.toInt .u64) (.t 11)),bn 13 .shr (.t 9) (.t 12),oo 14 (.bin .num .and (.t 13) (.c (.int .u8 1))),oo 15 (.bin .num .eql (.t 14) (.c (.int .u8 1))),mo 4 15]) (.keep (kp [(4,0)] [] 0) .ret))),[.t 4]⟩
abbrev g125_S:=Sys.on [] []
def spec_l13Bit (a_area:Str) (a_k:Int):Option (Bool):=if 0 ≤ (IntKind.i64.wrap (4 + (IntKind.i64.wrap (Int.tdiv a_k 8)))) then (a_area[((IntKind.i64.wrap (4 + (IntKind.i64.wrap (Int.tdiv a_k 8))))).toNat]?).bind fun (b1:UInt8)=>if (IntKind.u64.wrap ((Int.tmod a_k 8))) < 0 then none else some ((decide ((bitV .and .u8 ((shrV .u8 ((b1.toNat:Int)) ((IntKind.u64.wrap ((Int.tmod a_k 8)))))) 1) = 1))) else none
@[simp] def g125_O:Bool → TV × List Blk:=fun r=>((.bool r),[])
def g125_E (a:Str × Int):List TV:=[(.str a.1),(.int .i64 a.2)]
theorem g125_run (a_area:Str) (a_k:Int) :callFn (X g125_S) g125_tf (g125_E (a_area,a_k)) [] = (spec_l13Bit a_area a_k).map g125_O:=by
  rw [callFn_eq]
  simp (maxSteps:=2000000) (maxDischargeDepth:=8) -implicitDefEqProofs [g125_tf,spec_l13Bit,g125_E] <;> (try simp only [map_to_bind,some_elim,g125_O])
def g125_r:Rule:=RlO g125_E (fun a=>spec_l13Bit a.1 a.2) g125_O
theorem g125_ok:RuleOk Tryz.prog 97 g125_r:=ok_rlo (S:=g125_S) (tf:=g125_tf) (SysOk.on trivial trivial) (trE_ok (ks:=[]) Tryz.func97 (by kernel_rfl)) fun a=>g125_run a.1 a.2
@[simp] theorem g125_app (y0 y1):g125_r [(.str y0),(.int .i64 y1)] = (spec_l13Bit y0 y1).map g125_O :=
  RlO_app (enc:=g125_E) (by intro a b h; simp [g125_E,Prod.ext_iff] at h ⊢; simp [h]) (y0,y1)
/-! spec.l14Used -/
def g107_tf:TFn:=⟨(sq [mk 4 (kb false)] [0,1] (.seq (.after (.ops [mo 5 0,mo 6 1,ca 7 96 [.t 5,.t 6,ki 1],mo 8 7,⟨(some 9),(some (8,true)),(.mv (.t 0))⟩,⟨(some 10),(some (8,true)),(.call 98 [.t 9])⟩,⟨(some 11),(some (8,true)),(.mv (.t 1))⟩,⟨(some 12),(some (8,true)),(.call 97 [.t 10,.t 11])⟩,pk 13 (.t 8) (.t 12) (kb false),mo 4 13]) (kp [(4,0)] [] 0)) (.keep (kp [(4,0)] [] 0) .ret))),[.t 4]⟩
abbrev g107_S:=Sys.on [(96,g103_r),(98,g106_r),(97,g125_r)] []
def spec_l14Used (a_p:K1) (a_k:Int):Option (Bool):=(spec_l13Data a_p a_k 1).bind fun r1=>if r1 = true then (spec_l13Area a_p).bind fun r2=>(spec_l13Bit r2 a_k).bind fun r3=>some r3 else some false
@[simp] def g107_O:Bool → TV × List Blk:=fun r=>((.bool r),[])
def g107_E (a:K1 × Int × List TV):List TV:=[(.vp ((.vs (rows a.1.1.1))::(.vs (rows a.1.1.2.1))::(.int .i64 a.1.1.2.2.1)::(.bool a.1.1.2.2.2)::(.int .i64 a.1.2.1.1)::(.int .i64 a.1.2.1.2.1)::(.int .i64 a.1.2.1.2.2.1)::(.int .i64 a.1.2.1.2.2.2)::(.int .i64 a.1.2.2.1)::(.int .i64 a.1.2.2.2.1)::(.vs (rows a.1.2.2.2.2.1))::(.vs (rows a.1.2.2.2.2.2))::a.2.2)),(.int .i64 a.2.1)]
theorem g107_run (a_p:K1) (a_k:Int) (q0:List TV):callFn (X g107_S) g107_tf (g107_E (a_p,a_k,q0)) [] = (spec_l14Used a_p a_k).map g107_O:=by
  rw [callFn_eq]
  simp (maxSteps:=2000000) (maxDischargeDepth:=8) -implicitDefEqProofs [g107_tf,spec_l14Used,g107_E] <;> (try simp only [map_to_bind,some_elim,g107_O])
def g107_r:Rule:=RlO g107_E (fun a=>spec_l14Used a.1 a.2.1) g107_O
theorem g107_ok:RuleOk Tryz.prog 58 g107_r:=ok_rlo (S:=g107_S) (tf:=g107_tf) (SysOk.on ⟨g103_ok,g106_ok,g125_ok,trivial⟩ trivial) (trE_ok (ks:=[]) Tryz.func58 (by kernel_rfl)) fun a=>g107_run a.1 a.2.1 a.2.2
@[simp] theorem g107_app (y0 y1 y2 y3 y4 y5 y6 y7 y8 y9 y10 y11 y12)(q0:List TV):g107_r [(.vp ((.vs (rows y0))::(.vs (rows y1))::(.int .i64 y2)::(.bool y3)::(.int .i64 y4)::(.int .i64 y5)::(.int .i64 y6)::(.int .i64 y7)::(.int .i64 y8)::(.int .i64 y9)::(.vs (rows y10))::(.vs (rows y11))::q0)),(.int .i64 y12)] = (spec_l14Used (((y0,y1,y2,y3),(y4,y5,y6,y7),y8,y9,y10,y11)) y12).map g107_O :=
  RlO_app (enc:=g107_E) (by intro a b h; simp [g107_E,Prod.ext_iff] at h ⊢; simp [h]) (((y0,y1,y2,y3),(y4,y5,y6,y7),y8,y9,y10,y11),y12,q0)
/-! spec.l00Has -/
def g126l1_cb:TC:=(.seq (sq [mo 6 5,mo 7 0,le 8 7,bn 9 .lss (.t 6) (.t 8)] [0,1,5,9] (.cond (.t 9) .skip (.keep (kp [] [] 0) (.exit 0)))) (.trim [0,1,5] (.seq (.block 1 (sq [mo 12 0,mo 13 5,ia 14 1 12 13,ld 15 14,mo 16 1,bn 17 .eql (.t 15) (.t 16)] [0,1,5,17] (.cond (.t 17) (.seq (.ops [mk 4 (kb true)]) (.keep (kp [(4,0)] [] 0) .ret)) .skip))) (.trim [0,1,5] (.after (.ops [mo 10 5,bn 11 .add (.t 10) (ki 1),mo 5 11]) (kp [(0,0),(1,0),(5,0)] [] 0))))))
def g126l1_c:TC:=.loop [0,1,5] g126l1_cb
def g126_tf:TFn:=⟨(sq [mk 4 (kb false)] [0,1] (.seq (sq [mk 5 (ki 0)] [0,1,5] (.block 0 (.keep (kp [(0,0),(1,0),(5,0)] [] 0) g126l1_c))) (.trim [] (.seq (.ops [mk 4 (kb false)]) (.keep (kp [(4,0)] [] 0) .ret))))),[.t 4]⟩
abbrev g126_S:=Sys.on [] []
@[reducible,simp] def g126l1_F:((Unit) ⊕ (Bool)) → Out:=(Sum.elim (fun t=>(.ext 0,[],[])) (fun t=>(.ret,[(4,(.bool t))],[])))
def spec_l00Has_l1_b (v1:List Int) (v2:Int) (v3:Int):Option ((Int) ⊕ ((Unit) ⊕ (Bool))):=if v3 < (v1.length:Int) then if 0 ≤ v3 then (v1[(v3).toNat]?).bind fun x4=>if x4 = v2 then some (.inr (.inr true)) else some (.inl ((IntKind.i64.wrap (v3 + 1)))) else none else some (.inr (.inl ()))
theorem g126l1_b_eq  (v1:List Int) (v2:Int) (v3:Int):X g126_S g126l1_cb (keepEnv [0,1,5] [(0,(.vs (rows v1))),(1,(.int .i64 v2)),(5,(.int .i64 v3))]) [] = (spec_l00Has_l1_b v1 v2 v3).map (Sum.elim (fun s=>(TX.nrm,[(0,(.vs (rows v1))),(1,(.int .i64 v2)),(5,(.int .i64 s))],[])) g126l1_F):=by
  simp (maxSteps:=2000000) (maxDischargeDepth:=8) -implicitDefEqProofs [g126l1_cb,spec_l00Has_l1_b] <;> (try simp only [map_to_bind,some_elim,g126l1_F])
def spec_l00Has_l1 (v1:List Int) (v2:Int) (s:Int):Option ((Unit) ⊕ (Bool)):=loopO (fun s=>spec_l00Has_l1_b v1 v2 s) s
@[simp] theorem g126l1_eq (y0 y1 y2):X g126_S g126l1_c [(0,(.vs (rows y0))),(1,(.int .i64 y1)),(5,(.int .i64 y2))] [] = (spec_l00Has_l1 y0 y1 y2).map g126l1_F:=by
  exact loop_X _ _ _ _ (by intro r; first | (simp; done) | (rcases r with r | r <;> simp; done) | (rcases r with r | r | r <;> simp; done) | (rcases r with r | r | r | r <;> simp)) (fun s=>g126l1_b_eq  y0 y1 s) y2
def spec_l00Has (a_list:List Int) (a_n:Int):Option (Bool):=(spec_l00Has_l1 a_list a_n 0).bind fun r5=>Sum.elim (fun u6=>some false) (fun u7=>some u7) r5
@[simp] def g126_O:Bool → TV × List Blk:=fun r=>((.bool r),[])
def g126_E (a:List Int × Int):List TV:=[(.vs (rows a.1)),(.int .i64 a.2)]
theorem g126_run (a_list:List Int) (a_n:Int) :callFn (X g126_S) g126_tf (g126_E (a_list,a_n)) [] = (spec_l00Has a_list a_n).map g126_O:=by
  rw [callFn_eq]
  simp (maxSteps:=2000000) (maxDischargeDepth:=8) -implicitDefEqProofs [g126_tf,spec_l00Has,g126_E] <;> (try simp only [map_to_bind,some_elim,g126_O])
def g126_r:Rule:=RlO g126_E (fun a=>spec_l00Has a.1 a.2) g126_O
theorem g126_ok:RuleOk Tryz.prog 59 g126_r:=ok_rlo (S:=g126_S) (tf:=g126_tf) (SysOk.on trivial trivial) (trE_ok (ks:=[[0,1,5]]) Tryz.func59 (by kernel_rfl)) fun a=>g126_run a.1 a.2
@[simp] theorem g126_app (y0 y1):g126_r [(.vs (rows y0)),(.int .i64 y1)] = (spec_l00Has y0 y1).map g126_O :=
  RlO_app (enc:=g126_E) (by intro a b h; simp [g126_E,Prod.ext_iff] at h ⊢; simp [h]) (y0,y1)
@[simp] theorem g126_app_a_list (y0):g126_r [(.vs []),(.int .i64 y0)] = (spec_l00Has (([]:List Int)) y0).map g126_O :=
  g126_app ([]:List Int) y0 
/-! spec.l01Within -/
def g75_tf:TFn:=⟨(sq [mk 6 (kb false)] [0,1,2] (.seq (.after (.ops [mo 7 2,ca 8 54 [.t 7,ki 1,ki 8],mo 9 8,⟨(some 10),(some (9,true)),(.mv (.t 1))⟩,⟨(some 11),(some (9,true)),(.mv (.t 0))⟩,⟨(some 12),(some (9,true)),(.len true (.t 11))⟩,⟨(some 13),(some (9,true)),(.call 54 [.t 10,ki 0,.t 12])⟩,pk 14 (.t 9) (.t 13) (kb false),mo 15 14,⟨(some 16),(some (15,true)),(.mv (.t 2))⟩,⟨(some 17),(some (15,true)),(.mv (.t 0))⟩,⟨(some 18),(some (15,true)),(.len true (.t 17))⟩,⟨(some 19),(some (15,true)),(.mv (.t 1))⟩,⟨(some 20),(some (15,true)),(.bin .num .sub (.t 18) (.t 19))⟩,⟨(some 21),(some (15,true)),(.bin .num .leq (.t 16) (.t 20))⟩,pk 22 (.t 15) (.t 21) (kb false),mo 6 22]) (kp [(6,0)] [] 0)) (.keep (kp [(6,0)] [] 0) .ret))),[.t 6]⟩
abbrev g75_S:=Sys.on [(54,g135_r)] []
def spec_l01Within (a_s:Str) (a_at:Int) (a_size:Int):Option (Bool):=(spec_l00In a_size 1 8).bind fun r1=>if r1 = true then (spec_l00In a_at 0 ((a_s.length:Int))).bind fun r2=>if r2 = true then some ((decide (a_size ≤ (IntKind.i64.wrap ((a_s.length:Int) - a_at))))) else some false else some false
@[simp] def g75_O:Bool → TV × List Blk:=fun r=>((.bool r),[])
def g75_E (a:Str × Int × Int):List TV:=[(.str a.1),(.int .i64 a.2.1),(.int .i64 a.2.2)]
theorem g75_run (a_s:Str) (a_at:Int) (a_size:Int) :callFn (X g75_S) g75_tf (g75_E (a_s,a_at,a_size)) [] = (spec_l01Within a_s a_at a_size).map g75_O:=by
  rw [callFn_eq]
  simp (maxSteps:=2000000) (maxDischargeDepth:=8) -implicitDefEqProofs [g75_tf,spec_l01Within,g75_E] <;> (try simp only [map_to_bind,some_elim,g75_O])
def g75_r:Rule:=RlO g75_E (fun a=>spec_l01Within a.1 a.2.1 a.2.2) g75_O
theorem g75_ok:RuleOk Tryz.prog 101 g75_r:=ok_rlo (S:=g75_S) (tf:=g75_tf) (SysOk.on ⟨g135_ok,trivial⟩ trivial) (trE_ok (ks:=[]) Tryz.func101 (by kernel_rfl)) fun a=>g75_run a.1 a.2.1 a.2.2
@[simp] theorem g75_app (y0 y1 y2):g75_r [(.str y0),(.int .i64 y1),(.int .i64 y2)] = (spec_l01Within y0 y1 y2).map g75_O :=
  RlO_app (enc:=g75_E) (by intro a b h; simp [g75_E,Prod.ext_iff] at h ⊢; simp [h]) (y0,y1,y2)
end
end Go.Proofs.TM
