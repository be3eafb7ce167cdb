/- Functions of the program, as functions of their data: written by program. -/
import Derived.Test.YtljphigfgffeeaaGreatDoorTCk
import Derived.Test.YtljphigfgffeeaaGreatDoorTReadR
import Derived.Test.YtljphigfgffeeaaGreatDoorTLib
import Derived.Test.YtljphigfgffeeaaGreatDoorProg
import Derived.KernelRfl
namespace Go.Proofs.TM
open Go Go.Proofs
set_option linter.unusedVariables false
set_option linter.unusedSimpArgs false
set_option maxHeartbeats 1000000
attribute [-simp] Option.map_bind strV_some
attribute [simp] guardOn_bool sA_bslice Function.comp_def
noncomputable section
abbrev K1:=(List Str × List (Int × Str) × Int × Bool) × (Int × Int × Int × Int) × Int × Int × List (Int × Str) × List (Int × Str)
abbrev K0:=List Str × List (Int × Str) × Int × Bool
abbrev K2:=Int × Int × List (Int × Int × Str)
/-! laws.szStringS -/
def g59l1_cb:TC:=(.seq (sq [mo 12 5,mo 13 0,le 14 13,bn 15 .lss (.t 12) (.t 14)] [0,1,5,15] (.cond (.t 15) .skip (.keep (kp [(1,0)] [] 0) (.exit 0)))) (.trim [0,1,5] (.seq (.block 1 (sq [mo 18 1,mo 19 0,mo 20 5,ia 21 1 19 20,ld 22 21,oo 23 (.len true (.t 22)),bn 24 .sub (.t 18) (.t 23),mo 1 24] [0,1,5] (sq [mo 25 1,bn 26 .lss (.t 25) (ki 0)] [0,1,5,26] (.cond (.t 26) (.seq (.ops [mk 4 (ki (-1))]) (.keep (kp [(4,0)] [] 0) .ret)) .skip)))) (.trim [0,1,5] (.after (.ops [mo 16 5,bn 17 .add (.t 16) (ki 1),mo 5 17]) (kp [(0,0),(1,0),(5,0)] [] 0))))))
def g59l1_c:TC:=.loop [0,1,5] g59l1_cb
def g59_tf:TFn:=⟨(sq [mk 4 (ki 0)] [0,1] (sq [mo 6 1,mo 7 0,le 8 7,bn 9 .sub (.t 6) (.t 8),mo 1 9] [0,1] (.seq (sq [mo 10 1,bn 11 .lss (.t 10) (ki 0)] [0,1,11] (.cond (.t 11) (.seq (.ops [mk 4 (ki (-1))]) (.keep (kp [(4,0)] [] 0) .ret)) .skip)) (.trim [0,1] (.seq (sq [mk 5 (ki 0)] [0,1,5] (.block 0 (.keep (kp [(0,0),(1,0),(5,0)] [] 0) g59l1_c))) (.trim [1] (.seq (.ops [mo 27 1,mo 4 27]) (.keep (kp [(4,0)] [] 0) .ret)))))))),[.t 4]⟩
abbrev g59_S:=Sys.on [] []
@[reducible,simp] def g59l1_F:((Int) ⊕ (Int)) → Out:=(Sum.elim (fun t=>(.ext 0,[(1,(.int .i64 t))],[])) (fun t=>(.ret,[(4,(.int .i64 t))],[])))
def laws_szStringS_l1_b (v1:List Str) (v2:Int) (v3:Int):Option ((Int × Int) ⊕ ((Int) ⊕ (Int))):=if v3 < (v1.length:Int) then if 0 ≤ v3 then (v1[(v3).toNat]?).bind fun x4=>if (IntKind.i64.wrap (v2 - ((x4.length:Int)))) < 0 then some (.inr (.inr ((-1)))) else some (.inl ((IntKind.i64.wrap (v2 - ((x4.length:Int)))),(IntKind.i64.wrap (v3 + 1)))) else none else some (.inr (.inl v2))
theorem g59l1_b_eq  (v1:List Str) (v2:Int) (v3:Int):X g59_S g59l1_cb (keepEnv [0,1,5] [(0,(.vs (rows v1))),(1,(.int .i64 v2)),(5,(.int .i64 v3))]) [] = (laws_szStringS_l1_b v1 v2 v3).map (Sum.elim (fun s=>(TX.nrm,[(0,(.vs (rows v1))),(1,(.int .i64 s.1)),(5,(.int .i64 s.2))],[])) g59l1_F):=by
  simp (maxSteps:=2000000) (maxDischargeDepth:=8) -implicitDefEqProofs [g59l1_cb,laws_szStringS_l1_b] <;> (try simp only [map_to_bind,some_elim,g59l1_F])
def laws_szStringS_l1 (v1:List Str) (s:Int × Int):Option ((Int) ⊕ (Int)):=loopO (fun s=>laws_szStringS_l1_b v1 s.1 s.2) s
@[simp] theorem g59l1_eq (y0 y1 y2):X g59_S g59l1_c [(0,(.vs (rows y0))),(1,(.int .i64 y1)),(5,(.int .i64 y2))] [] = (laws_szStringS_l1 y0 (y1,y2)).map g59l1_F:=by
  exact loop_X _ _ _ _ (by intro r; first | (simp; done) | (rcases r with r | r <;> simp; done) | (rcases r with r | r | r <;> simp; done) | (rcases r with r | r | r | r <;> simp)) (fun s=>g59l1_b_eq  y0 s.1 s.2) (y1,y2)
def laws_szStringS (a_a:List Str) (a_left:Int):Option (Int):=if (IntKind.i64.wrap (a_left - ((a_a.length:Int)))) < 0 then some ((-1)) else (laws_szStringS_l1 a_a (((IntKind.i64.wrap (a_left - ((a_a.length:Int)))),0))).bind fun r5=>Sum.elim (fun u6=>some u6) (fun u7=>some u7) r5
@[simp] def g59_O:Int → TV × List Blk:=fun r=>((.int .i64 r),[])
def g59_E (a:List Str × Int):List TV:=[(.vs (rows a.1)),(.int .i64 a.2)]
theorem g59_run (a_a:List Str) (a_left:Int) :callFn (X g59_S) g59_tf (g59_E (a_a,a_left)) [] = (laws_szStringS a_a a_left).map g59_O:=by
  rw [callFn_eq]
  simp (maxSteps:=2000000) (maxDischargeDepth:=8) -implicitDefEqProofs [g59_tf,laws_szStringS,g59_E] <;> (try simp only [map_to_bind,some_elim,g59_O])
def g59_r:Rule:=RlO g59_E (fun a=>laws_szStringS a.1 a.2) g59_O
theorem g59_ok:RuleOk Tryz.prog 49 g59_r:=ok_rlo (S:=g59_S) (tf:=g59_tf) (SysOk.on trivial trivial) (trE_ok (ks:=[[0,1,5]]) Tryz.func49 (by kernel_rfl)) fun a=>g59_run a.1 a.2
@[simp] theorem g59_app (y0 y1):g59_r [(.vs (rows y0)),(.int .i64 y1)] = (laws_szStringS y0 y1).map g59_O :=
  RlO_app (enc:=g59_E) (by intro a b h; simp [g59_E,Prod.ext_iff] at h ⊢; simp [h]) (y0,y1)
/-! laws.szPut -/
def g115_tf:TFn:=⟨(sq [bx 2 0,mk 4 (ki 0)] [1,2] (sq [mo 5 1,fa 6 1 2,ld 7 6,oo 8 (.len true (.t 7)),bn 9 .sub (.t 5) (.t 8),mo 1 9] [1] (.seq (sq [mo 10 1,bn 11 .lss (.t 10) (ki 0)] [1,11] (.cond (.t 11) (.seq (.ops [mk 4 (ki (-1))]) (.keep (kp [(4,0)] [] 0) .ret)) .skip)) (.trim [1] (.seq (.ops [mo 12 1,mo 4 12]) (.keep (kp [(4,0)] [] 0) .ret)))))),[.t 4]⟩
abbrev g115_S:=Sys.on [] []
def laws_szPut (a_a:Int × Str) (a_left:Int):Option (Int):=if (IntKind.i64.wrap (a_left - ((a_a.2.length:Int)))) < 0 then some ((-1)) else some ((IntKind.i64.wrap (a_left - ((a_a.2.length:Int)))))
@[simp] def g115_O:Int → TV × List Blk:=fun r=>((.int .i64 r),[])
def g115_E (a:(Int × Str) × Int):List TV:=[(.agg [(.int .i64 a.1.1),(.str a.1.2)]),(.int .i64 a.2)]
theorem g115_run (a_a:Int × Str) (a_left:Int) :callFn (X g115_S) g115_tf (g115_E (a_a,a_left)) [] = (laws_szPut a_a a_left).map g115_O:=by
  rw [callFn_eq]
  simp (maxSteps:=2000000) (maxDischargeDepth:=8) -implicitDefEqProofs [g115_tf,laws_szPut,g115_E] <;> (try simp only [map_to_bind,some_elim,g115_O])
def g115_r:Rule:=RlO g115_E (fun a=>laws_szPut a.1 a.2) g115_O
theorem g115_ok:RuleOk Tryz.prog 93 g115_r:=ok_rlo (S:=g115_S) (tf:=g115_tf) (SysOk.on trivial trivial) (trE_ok (ks:=[]) Tryz.func93 (by kernel_rfl)) fun a=>g115_run a.1 a.2
@[simp] theorem g115_app (y0 y1 y2):g115_r [(.agg [(.int .i64 y0),(.str y1)]),(.int .i64 y2)] = (laws_szPut ((y0,y1)) y2).map g115_O :=
  RlO_app (enc:=g115_E) (by intro a b h; simp [g115_E,Prod.ext_iff] at h ⊢; simp [h]) ((y0,y1),y2)
/-! laws.szPutS -/
def g100l1_cb:TC:=(.seq (sq [mo 12 5,mo 13 0,le 14 13,bn 15 .lss (.t 12) (.t 14)] [0,1,5,15] (.cond (.t 15) .skip (.keep (kp [(1,0)] [] 0) (.exit 0)))) (.trim [0,1,5] (.seq (.block 1 (sq [mo 18 0,mo 19 5,ia 20 2 18 19,ln 21 2 20,mo 22 1,ca 23 93 [.t 21,.t 22],mo 1 23] [0,1,5] (sq [mo 24 1,bn 25 .lss (.t 24) (ki 0)] [0,1,5,25] (.cond (.t 25) (.seq (.ops [mk 4 (ki (-1))]) (.keep (kp [(4,0)] [] 0) .ret)) .skip)))) (.trim [0,1,5] (.after (.ops [mo 16 5,bn 17 .add (.t 16) (ki 1),mo 5 17]) (kp [(0,0),(1,0),(5,0)] [] 0))))))
def g100l1_c:TC:=.loop [0,1,5] g100l1_cb
def g100_tf:TFn:=⟨(sq [mk 4 (ki 0)] [0,1] (sq [mo 6 1,mo 7 0,le 8 7,bn 9 .sub (.t 6) (.t 8),mo 1 9] [0,1] (.seq (sq [mo 10 1,bn 11 .lss (.t 10) (ki 0)] [0,1,11] (.cond (.t 11) (.seq (.ops [mk 4 (ki (-1))]) (.keep (kp [(4,0)] [] 0) .ret)) .skip)) (.trim [0,1] (.seq (sq [mk 5 (ki 0)] [0,1,5] (.block 0 (.keep (kp [(0,0),(1,0),(5,0)] [] 0) g100l1_c))) (.trim [1] (.seq (.ops [mo 26 1,mo 4 26]) (.keep (kp [(4,0)] [] 0) .ret)))))))),[.t 4]⟩
abbrev g100_S:=Sys.on [(93,g115_r)] []
@[reducible,simp] def g100l1_F:((Int) ⊕ (Int)) → Out:=(Sum.elim (fun t=>(.ext 0,[(1,(.int .i64 t))],[])) (fun t=>(.ret,[(4,(.int .i64 t))],[])))
def laws_szPutS_l1_b (v1:List (Int × Str)) (v2:Int) (v3:Int):Option ((Int × Int) ⊕ ((Int) ⊕ (Int))):=if v3 < (v1.length:Int) then if 0 ≤ v3 then (v1[(v3).toNat]?).bind fun x4=>(laws_szPut x4 v2).bind fun r5=>if r5 < 0 then some (.inr (.inr ((-1)))) else some (.inl (r5,(IntKind.i64.wrap (v3 + 1)))) else none else some (.inr (.inl v2))
theorem g100l1_b_eq  (v1:List (Int × Str)) (v2:Int) (v3:Int):X g100_S g100l1_cb (keepEnv [0,1,5] [(0,(.vs (rows v1))),(1,(.int .i64 v2)),(5,(.int .i64 v3))]) [] = (laws_szPutS_l1_b v1 v2 v3).map (Sum.elim (fun s=>(TX.nrm,[(0,(.vs (rows v1))),(1,(.int .i64 s.1)),(5,(.int .i64 s.2))],[])) g100l1_F):=by
  simp (maxSteps:=2000000) (maxDischargeDepth:=8) -implicitDefEqProofs [g100l1_cb,laws_szPutS_l1_b] <;> (try simp only [map_to_bind,some_elim,g100l1_F])
def laws_szPutS_l1 (v1:List (Int × Str)) (s:Int × Int):Option ((Int) ⊕ (Int)):=loopO (fun s=>laws_szPutS_l1_b v1 s.1 s.2) s
@[simp] theorem g100l1_eq (y0 y1 y2):X g100_S g100l1_c [(0,(.vs (rows y0))),(1,(.int .i64 y1)),(5,(.int .i64 y2))] [] = (laws_szPutS_l1 y0 (y1,y2)).map g100l1_F:=by
  exact loop_X _ _ _ _ (by intro r; first | (simp; done) | (rcases r with r | r <;> simp; done) | (rcases r with r | r | r <;> simp; done) | (rcases r with r | r | r | r <;> simp)) (fun s=>g100l1_b_eq  y0 s.1 s.2) (y1,y2)
def laws_szPutS (a_a:List (Int × Str)) (a_left:Int):Option (Int):=if (IntKind.i64.wrap (a_left - ((a_a.length:Int)))) < 0 then some ((-1)) else (laws_szPutS_l1 a_a (((IntKind.i64.wrap (a_left - ((a_a.length:Int)))),0))).bind fun r6=>Sum.elim (fun u7=>some u7) (fun u8=>some u8) r6
@[simp] def g100_O:Int → TV × List Blk:=fun r=>((.int .i64 r),[])
def g100_E (a:(List (Int × Str)) × Int):List TV:=[(.vs (rows a.1)),(.int .i64 a.2)]
theorem g100_run (a_a:List (Int × Str)) (a_left:Int) :callFn (X g100_S) g100_tf (g100_E (a_a,a_left)) [] = (laws_szPutS a_a a_left).map g100_O:=by
  rw [callFn_eq]
  simp (maxSteps:=2000000) (maxDischargeDepth:=8) -implicitDefEqProofs [g100_tf,laws_szPutS,g100_E] <;> (try simp only [map_to_bind,some_elim,g100_O])
def g100_r:Rule:=RlO g100_E (fun a=>laws_szPutS a.1 a.2) g100_O
theorem g100_ok:RuleOk Tryz.prog 50 g100_r:=ok_rlo (S:=g100_S) (tf:=g100_tf) (SysOk.on ⟨g115_ok,trivial⟩ trivial) (trE_ok (ks:=[[0,1,5]]) Tryz.func50 (by kernel_rfl)) fun a=>g100_run a.1 a.2
@[simp] theorem g100_app (y0 y1):g100_r [(.vs (rows y0)),(.int .i64 y1)] = (laws_szPutS y0 y1).map g100_O :=
  RlO_app (enc:=g100_E) (by intro a b h; simp [g100_E,Prod.ext_iff] at h ⊢; simp [h]) (y0,y1)
/-! laws.szDisk -/
def g101_tf:TFn:=⟨(sq [bx 2 0,mk 4 (ki 0)] [1,2] (sq [fa 5 0 2,ld 6 5,mo 7 1,ca 8 49 [.t 6,.t 7],mo 1 8] [1,2] (.seq (sq [mo 9 1,bn 10 .lss (.t 9) (ki 0)] [1,2,10] (.cond (.t 10) (.seq (.ops [mk 4 (ki (-1))]) (.keep (kp [(4,0)] [] 0) .ret)) .skip)) (.trim [1,2] (sq [fa 11 1 2,ld 12 11,mo 13 1,ca 14 50 [.t 12,.t 13],mo 1 14] [1] (.seq (sq [mo 15 1,bn 16 .lss (.t 15) (ki 0)] [1,16] (.cond (.t 16) (.seq (.ops [mk 4 (ki (-1))]) (.keep (kp [(4,0)] [] 0) .ret)) .skip)) (.trim [1] (.seq (.ops [mo 17 1,mo 4 17]) (.keep (kp [(4,0)] [] 0) .ret))))))))),[.t 4]⟩
abbrev g101_S:=Sys.on [(49,g59_r),(50,g100_r)] []
def laws_szDisk (a_a:K0) (a_left:Int):Option (Int):=(laws_szStringS a_a.1 a_left).bind fun r1=>if r1 < 0 then some ((-1)) else (laws_szPutS a_a.2.1 r1).bind fun r2=>if r2 < 0 then some ((-1)) else some r2
@[simp] def g101_O:Int → TV × List Blk:=fun r=>((.int .i64 r),[])
def g101_E (a:K0 × Int):List TV:=[(.agg [(.vs (rows a.1.1)),(.vs (rows a.1.2.1)),(.int .i64 a.1.2.2.1),(.bool a.1.2.2.2)]),(.int .i64 a.2)]
theorem g101_run (a_a:K0) (a_left:Int) :callFn (X g101_S) g101_tf (g101_E (a_a,a_left)) [] = (laws_szDisk a_a a_left).map g101_O:=by
  rw [callFn_eq]
  simp (maxSteps:=2000000) (maxDischargeDepth:=8) -implicitDefEqProofs [g101_tf,laws_szDisk,g101_E] <;> (try simp only [map_to_bind,some_elim,g101_O])
def g101_r:Rule:=RlO g101_E (fun a=>laws_szDisk a.1 a.2) g101_O
theorem g101_ok:RuleOk Tryz.prog 23 g101_r:=ok_rlo (S:=g101_S) (tf:=g101_tf) (SysOk.on ⟨g59_ok,g100_ok,trivial⟩ trivial) (trE_ok (ks:=[]) Tryz.func23 (by kernel_rfl)) fun a=>g101_run a.1 a.2
@[simp] theorem g101_app (y0 y1 y2 y3 y4):g101_r [(.agg [(.vs (rows y0)),(.vs (rows y1)),(.int .i64 y2),(.bool y3)]),(.int .i64 y4)] = (laws_szDisk ((y0,y1,y2,y3)) y4).map g101_O :=
  RlO_app (enc:=g101_E) (by intro a b h; simp [g101_E,Prod.ext_iff] at h ⊢; simp [h]) ((y0,y1,y2,y3),y4)
/-! laws.szPage -/
def g102_tf:TFn:=⟨(sq [bx 2 0,mk 4 (ki 0)] [1,2] (sq [mo 5 1,fa 6 1 2,ld 7 6,oo 8 (.len true (.t 7)),bn 9 .sub (.t 5) (.t 8),mo 1 9] [1] (.seq (sq [mo 10 1,bn 11 .lss (.t 10) (ki 0)] [1,11] (.cond (.t 11) (.seq (.ops [mk 4 (ki (-1))]) (.keep (kp [(4,0)] [] 0) .ret)) .skip)) (.trim [1] (.seq (.ops [mo 12 1,mo 4 12]) (.keep (kp [(4,0)] [] 0) .ret)))))),[.t 4]⟩
abbrev g102_S:=Sys.on [] []
def laws_szPage (a_a:Int × Str) (a_left:Int):Option (Int):=if (IntKind.i64.wrap (a_left - ((a_a.2.length:Int)))) < 0 then some ((-1)) else some ((IntKind.i64.wrap (a_left - ((a_a.2.length:Int)))))
@[simp] def g102_O:Int → TV × List Blk:=fun r=>((.int .i64 r),[])
def g102_E (a:(Int × Str) × Int):List TV:=[(.agg [(.int .i64 a.1.1),(.str a.1.2)]),(.int .i64 a.2)]
theorem g102_run (a_a:Int × Str) (a_left:Int) :callFn (X g102_S) g102_tf (g102_E (a_a,a_left)) [] = (laws_szPage a_a a_left).map g102_O:=by
  rw [callFn_eq]
  simp (maxSteps:=2000000) (maxDischargeDepth:=8) -implicitDefEqProofs [g102_tf,laws_szPage,g102_E] <;> (try simp only [map_to_bind,some_elim,g102_O])
def g102_r:Rule:=RlO g102_E (fun a=>laws_szPage a.1 a.2) g102_O
theorem g102_ok:RuleOk Tryz.prog 51 g102_r:=ok_rlo (S:=g102_S) (tf:=g102_tf) (SysOk.on trivial trivial) (trE_ok (ks:=[]) Tryz.func51 (by kernel_rfl)) fun a=>g102_run a.1 a.2
@[simp] theorem g102_app (y0 y1 y2):g102_r [(.agg [(.int .i64 y0),(.str y1)]),(.int .i64 y2)] = (laws_szPage ((y0,y1)) y2).map g102_O :=
  RlO_app (enc:=g102_E) (by intro a b h; simp [g102_E,Prod.ext_iff] at h ⊢; simp [h]) ((y0,y1),y2)
/-! laws.szPageS -/
def g80l1_cb:TC:=(.seq (sq [mo 12 5,mo 13 0,le 14 13,bn 15 .lss (.t 12) (.t 14)] [0,1,5,15] (.cond (.t 15) .skip (.keep (kp [(1,0)] [] 0) (.exit 0)))) (.trim [0,1,5] (.seq (.block 1 (sq [mo 18 0,mo 19 5,ia 20 2 18 19,ln 21 2 20,mo 22 1,ca 23 51 [.t 21,.t 22],mo 1 23] [0,1,5] (sq [mo 24 1,bn 25 .lss (.t 24) (ki 0)] [0,1,5,25] (.cond (.t 25) (.seq (.ops [mk 4 (ki (-1))]) (.keep (kp [(4,0)] [] 0) .ret)) .skip)))) (.trim [0,1,5] (.after (.ops [mo 16 5,bn 17 .add (.t 16) (ki 1),mo 5 17]) (kp [(0,0),(1,0),(5,0)] [] 0))))))
def g80l1_c:TC:=.loop [0,1,5] g80l1_cb
def g80_tf:TFn:=⟨(sq [mk 4 (ki 0)] [0,1] (sq [mo 6 1,mo 7 0,le 8 7,bn 9 .sub (.t 6) (.t 8),mo 1 9] [0,1] (.seq (sq [mo 10 1,bn 11 .lss (.t 10) (ki 0)] [0,1,11] (.cond (.t 11) (.seq (.ops [mk 4 (ki (-1))]) (.keep (kp [(4,0)] [] 0) .ret)) .skip)) (.trim [0,1] (.seq (sq [mk 5 (ki 0)] [0,1,5] (.block 0 (.keep (kp [(0,0),(1,0),(5,0)] [] 0) g80l1_c))) (.trim [1] (.seq (.ops [mo 26 1,mo 4 26]) (.keep (kp [(4,0)] [] 0) .ret)))))))),[.t 4]⟩
abbrev g80_S:=Sys.on [(51,g102_r)] []
@[reducible,simp] def g80l1_F:((Int) ⊕ (Int)) → Out:=(Sum.elim (fun t=>(.ext 0,[(1,(.int .i64 t))],[])) (fun t=>(.ret,[(4,(.int .i64 t))],[])))
def laws_szPageS_l1_b (v1:List (Int × Str)) (v2:Int) (v3:Int):Option ((Int × Int) ⊕ ((Int) ⊕ (Int))):=if v3 < (v1.length:Int) then if 0 ≤ v3 then (v1[(v3).toNat]?).bind fun x4=>(laws_szPage x4 v2).bind fun r5=>if r5 < 0 then some (.inr (.inr ((-1)))) else some (.inl (r5,(IntKind.i64.wrap (v3 + 1)))) else none else some (.inr (.inl v2))
theorem g80l1_b_eq  (v1:List (Int × Str)) (v2:Int) (v3:Int):X g80_S g80l1_cb (keepEnv [0,1,5] [(0,(.vs (rows v1))),(1,(.int .i64 v2)),(5,(.int .i64 v3))]) [] = (laws_szPageS_l1_b v1 v2 v3).map (Sum.elim (fun s=>(TX.nrm,[(0,(.vs (rows v1))),(1,(.int .i64 s.1)),(5,(.int .i64 s.2))],[])) g80l1_F):=by
  simp (maxSteps:=2000000) (maxDischargeDepth:=8) -implicitDefEqProofs [g80l1_cb,laws_szPageS_l1_b] <;> (try simp only [map_to_bind,some_elim,g80l1_F])
def laws_szPageS_l1 (v1:List (Int × Str)) (s:Int × Int):Option ((Int) ⊕ (Int)):=loopO (fun s=>laws_szPageS_l1_b v1 s.1 s.2) s
@[simp] theorem g80l1_eq (y0 y1 y2):X g80_S g80l1_c [(0,(.vs (rows y0))),(1,(.int .i64 y1)),(5,(.int .i64 y2))] [] = (laws_szPageS_l1 y0 (y1,y2)).map g80l1_F:=by
  exact loop_X _ _ _ _ (by intro r; first | (simp; done) | (rcases r with r | r <;> simp; done) | (rcases r with r | r | r <;> simp; done) | (rcases r with r | r | r | r <;> simp)) (fun s=>g80l1_b_eq  y0 s.1 s.2) (y1,y2)
def laws_szPageS (a_a:List (Int × Str)) (a_left:Int):Option (Int):=if (IntKind.i64.wrap (a_left - ((a_a.length:Int)))) < 0 then some ((-1)) else (laws_szPageS_l1 a_a (((IntKind.i64.wrap (a_left - ((a_a.length:Int)))),0))).bind fun r6=>Sum.elim (fun u7=>some u7) (fun u8=>some u8) r6
@[simp] def g80_O:Int → TV × List Blk:=fun r=>((.int .i64 r),[])
def g80_E (a:(List (Int × Str)) × Int):List TV:=[(.vs (rows a.1)),(.int .i64 a.2)]
theorem g80_run (a_a:List (Int × Str)) (a_left:Int) :callFn (X g80_S) g80_tf (g80_E (a_a,a_left)) [] = (laws_szPageS a_a a_left).map g80_O:=by
  rw [callFn_eq]
  simp (maxSteps:=2000000) (maxDischargeDepth:=8) -implicitDefEqProofs [g80_tf,laws_szPageS,g80_E] <;> (try simp only [map_to_bind,some_elim,g80_O])
def g80_r:Rule:=RlO g80_E (fun a=>laws_szPageS a.1 a.2) g80_O
theorem g80_ok:RuleOk Tryz.prog 24 g80_r:=ok_rlo (S:=g80_S) (tf:=g80_tf) (SysOk.on ⟨g102_ok,trivial⟩ trivial) (trE_ok (ks:=[[0,1,5]]) Tryz.func24 (by kernel_rfl)) fun a=>g80_run a.1 a.2
@[simp] theorem g80_app (y0 y1):g80_r [(.vs (rows y0)),(.int .i64 y1)] = (laws_szPageS y0 y1).map g80_O :=
  RlO_app (enc:=g80_E) (by intro a b h; simp [g80_E,Prod.ext_iff] at h ⊢; simp [h]) (y0,y1)
/-! laws.szPager -/
def g81_tf:TFn:=⟨(sq [bx 2 0,mk 4 (ki 0)] [1,2] (sq [fa 5 0 2,ln 6 4 5,mo 7 1,ca 8 23 [.t 6,.t 7],mo 1 8] [1,2] (.seq (sq [mo 9 1,bn 10 .lss (.t 9) (ki 0)] [1,2,10] (.cond (.t 10) (.seq (.ops [mk 4 (ki (-1))]) (.keep (kp [(4,0)] [] 0) .ret)) .skip)) (.trim [1,2] (sq [fa 11 10 2,ld 12 11,mo 13 1,ca 14 24 [.t 12,.t 13],mo 1 14] [1,2] (.seq (sq [mo 15 1,bn 16 .lss (.t 15) (ki 0)] [1,2,16] (.cond (.t 16) (.seq (.ops [mk 4 (ki (-1))]) (.keep (kp [(4,0)] [] 0) .ret)) .skip)) (.trim [1,2] (sq [fa 17 11 2,ld 18 17,mo 19 1,ca 20 24 [.t 18,.t 19],mo 1 20] [1] (.seq (sq [mo 21 1,bn 22 .lss (.t 21) (ki 0)] [1,22] (.cond (.t 22) (.seq (.ops [mk 4 (ki (-1))]) (.keep (kp [(4,0)] [] 0) .ret)) .skip)) (.trim [1] (.seq (.ops [mo 23 1,mo 4 23]) (.keep (kp [(4,0)] [] 0) .ret)))))))))))),[.t 4]⟩
abbrev g81_S:=Sys.on [(23,g101_r),(24,g80_r)] []
def laws_szPager (a_a:K1) (a_left:Int):Option (Int):=(laws_szDisk a_a.1 a_left).bind fun r1=>if r1 < 0 then some ((-1)) else (laws_szPageS a_a.2.2.2.2.1 r1).bind fun r2=>if r2 < 0 then some ((-1)) else (laws_szPageS a_a.2.2.2.2.2 r2).bind fun r3=>if r3 < 0 then some ((-1)) else some r3
@[simp] def g81_O:Int → TV × List Blk:=fun r=>((.int .i64 r),[])
def g81_E (a:K1 × Int):List TV:=[(.agg [(.vs (rows a.1.1.1)),(.vs (rows a.1.1.2.1)),(.int .i64 a.1.1.2.2.1),(.bool a.1.1.2.2.2),(.int .i64 a.1.2.1.1),(.int .i64 a.1.2.1.2.1),(.int .i64 a.1.2.1.2.2.1),(.int .i64 a.1.2.1.2.2.2),(.int .i64 a.1.2.2.1),(.int .i64 a.1.2.2.2.1),(.vs (rows a.1.2.2.2.2.1)),(.vs (rows a.1.2.2.2.2.2))]),(.int .i64 a.2)]
theorem g81_run (a_a:K1) (a_left:Int) :callFn (X g81_S) g81_tf (g81_E (a_a,a_left)) [] = (laws_szPager a_a a_left).map g81_O:=by
  rw [callFn_eq]
  simp (maxSteps:=2000000) (maxDischargeDepth:=8) -implicitDefEqProofs [g81_tf,laws_szPager,g81_E] <;> (try simp only [map_to_bind,some_elim,g81_O])
def g81_r:Rule:=RlO g81_E (fun a=>laws_szPager a.1 a.2) g81_O
theorem g81_ok:RuleOk Tryz.prog 6 g81_r:=ok_rlo (S:=g81_S) (tf:=g81_tf) (SysOk.on ⟨g101_ok,g80_ok,trivial⟩ trivial) (trE_ok (ks:=[]) Tryz.func6 (by kernel_rfl)) fun a=>g81_run a.1 a.2
@[simp] theorem g81_app (y0 y1 y2 y3 y4 y5 y6 y7 y8 y9 y10 y11 y12):g81_r [(.agg [(.vs (rows y0)),(.vs (rows y1)),(.int .i64 y2),(.bool y3),(.int .i64 y4),(.int .i64 y5),(.int .i64 y6),(.int .i64 y7),(.int .i64 y8),(.int .i64 y9),(.vs (rows y10)),(.vs (rows y11))]),(.int .i64 y12)] = (laws_szPager (((y0,y1,y2,y3),(y4,y5,y6,y7),y8,y9,y10,y11)) y12).map g81_O :=
  RlO_app (enc:=g81_E) (by intro a b h; simp [g81_E,Prod.ext_iff] at h ⊢; simp [h]) (((y0,y1,y2,y3),(y4,y5,y6,y7),y8,y9,y10,y11),y12)
/-! laws.toStringS -/
def g60l1_cb:TC:=(.seq (sq [mo 8 4,mo 9 0,le 10 9,bn 11 .lss (.t 8) (.t 10)] [0,3,4,11] (.cond (.t 11) .skip (.keep (kp [(3,1)] [(0,1)] 0) (.exit 0)))) (.trim [0,3,4] (.seq (.block 1 (.ops [mo 14 3,mo 15 4,mo 16 0,mo 17 4,ia 18 1 16 17,ld 19 18,ia 20 1 14 15,⟨none,none,(.store 1 (.t 20) (.t 19))⟩])) (.trim [0,3,4] (.after (.ops [mo 12 4,bn 13 .add (.t 12) (ki 1),mo 4 13]) (kp [(0,0),(3,1),(4,0)] [(0,1)] 0))))))
def g60l1_c:TC:=.loop [0,3,4] g60l1_cb
def g60_tf:TFn:=⟨(sq [mk 2 (.c .nils)] [0] (sq [mo 5 0,le 6 5,oo 7 (.mkslice 16 [(.str [])] (.t 6) (.t 6)),mo 3 7] [0,3] (.seq (sq [mk 4 (ki 0)] [0,3,4] (.block 0 (.keep (kp [(0,0),(3,1),(4,0)] [(0,1)] 0) g60l1_c))) (.trim [3] (.seq (.ops [mo 21 3,mo 2 21]) (.keep (kp [(2,1)] [(0,1)] 0) .ret)))))),[.t 2]⟩
abbrev g60_S:=Sys.on [] []
@[reducible,simp] def g60l1_F:(List Str) → Out:=(fun t=>(.ext 0,[(3,(ow 0 t.length))],[(ob 1 t)]))
def laws_toStringS_l1_b (v2:List Str) (v3:List Str) (v4:Int):Option ((List Str × Int) ⊕ (List Str)):=if v4 < (v2.length:Int) then if 0 ≤ v4 then (v2[(v4).toNat]?).bind fun x5=>if 0 ≤ v4 ∧ v4 < ((v3.length:Nat):Int) then (v3[(v4).toNat]?).bind fun x6=>some (.inl ((v3.set (v4).toNat x5),(IntKind.i64.wrap (v4 + 1)))) else none else none else some (.inr v3)
theorem g60l1_b_eq  (v2:List Str) (v3:List Str) (v4:Int):X g60_S g60l1_cb (keepEnv [0,3,4] [(0,(.vs (rows v2))),(3,(ow 0 v3.length)),(4,(.int .i64 v4))]) [(ob 1 v3)] = (laws_toStringS_l1_b v2 v3 v4).map (Sum.elim (fun s=>(TX.nrm,[(0,(.vs (rows v2))),(3,(ow 0 s.1.length)),(4,(.int .i64 s.2))],[(ob 1 s.1)])) g60l1_F):=by
  simp (maxSteps:=2000000) (maxDischargeDepth:=8) -implicitDefEqProofs [g60l1_cb,laws_toStringS_l1_b,mksliceV_typed (z:=(([]:Str):Str)) (zs:=[(.str [])]) rfl (by decide)] <;> (try simp only [map_to_bind,some_elim,g60l1_F])
def laws_toStringS_l1 (v2:List Str) (s:List Str × Int):Option (List Str):=loopO (fun s=>laws_toStringS_l1_b v2 s.1 s.2) s
@[simp] theorem g60l1_eq (y0)(y1:List Str)(y2){n1:Nat}(h1:n1 = y1.length):X g60_S g60l1_c [(0,(.vs (rows y0))),(3,(ow 0 n1)),(4,(.int .i64 y2))] [(ob 1 y1)] = (laws_toStringS_l1 y0 (y1,y2)).map g60l1_F:=by
  subst h1
  exact loop_X _ _ _ _ (by intro r; first | (simp; done) | (rcases r with r | r <;> simp; done) | (rcases r with r | r | r <;> simp; done) | (rcases r with r | r | r | r <;> simp)) (fun s=>g60l1_b_eq  y0 s.1 s.2) (y1,y2)
def laws_toStringS (a_a:List Str):Option (List Str):=(mkL 16 ((a_a.length:Int)) ((a_a.length:Int)) (([]:Str):Str)).bind fun l1=>(laws_toStringS_l1 a_a ((l1,0))).bind fun r7=>some r7
@[simp] def g60_O:List Str → TV × List Blk:=fun r=>((ow 0 r.length),[(ob 1 r)])
def g60_E (a:List Str):List TV:=[(.vs (rows a))]
theorem g60_run (a_a:List Str) :callFn (X g60_S) g60_tf (g60_E a_a) [] = (laws_toStringS a_a).map g60_O:=by
  rw [callFn_eq]
  simp (maxSteps:=2000000) (maxDischargeDepth:=8) -implicitDefEqProofs [g60_tf,laws_toStringS,g60_E,mksliceV_typed (z:=(([]:Str):Str)) (zs:=[(.str [])]) rfl (by decide)] <;> (try simp only [map_to_bind,some_elim,g60_O])
def g60_r:Rule:=RlO g60_E (fun a=>laws_toStringS a) g60_O
theorem g60_ok:RuleOk Tryz.prog 64 g60_r:=ok_rlo (S:=g60_S) (tf:=g60_tf) (SysOk.on trivial trivial) (trE_ok (ks:=[[0,3,4]]) Tryz.func64 (by kernel_rfl)) fun a=>g60_run a
@[simp] theorem g60_app (y0):g60_r [(.vs (rows y0))] = (laws_toStringS y0).map g60_O :=
  RlO_app (enc:=g60_E) (by intro a b h; simp [g60_E,Prod.ext_iff] at h ⊢; simp [h]) y0
/-! laws.toPut -/
def g116_tf:TFn:=⟨(sq [bx 1 0,oo 2 (.alloc [(.int .i64 0),(.str [])])] [1,2] (sq [oo 3 (.alloc [(.int .i64 0),(.str [])])] [1,2,3] (sq [fa 4 0 1,ld 5 4,fa 6 0 3,⟨none,none,(.store 1 (.t 6) (.t 5))⟩] [1,2,3] (sq [fa 7 1 1,ld 8 7,fa 9 1 3,⟨none,none,(.store 1 (.t 9) (.t 8))⟩] [2,3] (.seq (.ops [ln 10 2 3,⟨none,none,(.store 2 (.t 2) (.t 10))⟩]) (.keep (kp [(2,0)] [(1,0)] 0) .ret)))))),[.cell 2 (some 2)]⟩
abbrev g116_S:=Sys.on [] []
def laws_toPut (a_a:Int × Str):Option ((Int × Str)):=some a_a
@[simp] def g116_O:((Int × Str)) → TV × List Blk:=fun r=>((.agg [(.int .i64 r.1),(.str r.2)]),[(.live 2 [[(.int .i64 r.1),(.str r.2)]])])
def g116_E (a:(Int × Str)):List TV:=[(.agg [(.int .i64 a.1),(.str a.2)])]
theorem g116_run (a_a:Int × Str) :callFn (X g116_S) g116_tf (g116_E a_a) [] = (laws_toPut a_a).map g116_O:=by
  rw [callFn_eq]
  simp (maxSteps:=2000000) (maxDischargeDepth:=8) -implicitDefEqProofs [g116_tf,laws_toPut,g116_E] <;> (try simp only [map_to_bind,some_elim,g116_O])
def g116_r:Rule:=RlO g116_E (fun a=>laws_toPut a) g116_O
theorem g116_ok:RuleOk Tryz.prog 106 g116_r:=ok_rlo (S:=g116_S) (tf:=g116_tf) (SysOk.on trivial trivial) (trE_ok (ks:=[]) Tryz.func106 (by kernel_rfl)) fun a=>g116_run a
@[simp] theorem g116_app (y0 y1):g116_r [(.agg [(.int .i64 y0),(.str y1)])] = (laws_toPut ((y0,y1))).map g116_O :=
  RlO_app (enc:=g116_E) (by intro a b h; simp [g116_E,Prod.ext_iff] at h ⊢; simp [h]) ((y0,y1))
/-! laws.toPutS -/
def g103l1_cb:TC:=(.seq (sq [mo 8 4,mo 9 0,le 10 9,bn 11 .lss (.t 8) (.t 10)] [0,3,4,11] (.cond (.t 11) .skip (.keep (kp [(3,1)] [(0,1)] 0) (.exit 0)))) (.trim [0,3,4] (.seq (.block 1 (.ops [mo 14 3,mo 15 4,mo 16 0,mo 17 4,ia 18 2 16 17,ln 19 2 18,ca 20 106 [.t 19],ia 21 2 14 15,⟨none,none,(.store 2 (.t 21) (.t 20))⟩])) (.trim [0,3,4] (.after (.ops [mo 12 4,bn 13 .add (.t 12) (ki 1),mo 4 13]) (kp [(0,0),(3,1),(4,0)] [(0,1)] 0))))))
def g103l1_c:TC:=.loop [0,3,4] g103l1_cb
def g103_tf:TFn:=⟨(sq [mk 2 (.c .nils)] [0] (sq [mo 5 0,le 6 5,oo 7 (.mkslice 24 [(.int .i64 0),(.str [])] (.t 6) (.t 6)),mo 3 7] [0,3] (.seq (sq [mk 4 (ki 0)] [0,3,4] (.block 0 (.keep (kp [(0,0),(3,1),(4,0)] [(0,1)] 0) g103l1_c))) (.trim [3] (.seq (.ops [mo 22 3,mo 2 22]) (.keep (kp [(2,1)] [(0,1)] 0) .ret)))))),[.t 2]⟩
abbrev g103_S:=Sys.on [(106,g116_r)] []
@[reducible,simp] def g103l1_F:((List (Int × Str))) → Out:=(fun t=>(.ext 0,[(3,(ow 0 t.length))],[(ob 2 t)]))
def laws_toPutS_l1_b (v2:List (Int × Str)) (v3:List (Int × Str)) (v4:Int):Option (((List (Int × Str)) × Int) ⊕ ((List (Int × Str)))):=if v4 < (v2.length:Int) then if 0 ≤ v4 then (v2[(v4).toNat]?).bind fun x5=>(laws_toPut x5).bind fun r6=>if 0 ≤ v4 ∧ v4 < ((v3.length:Nat):Int) then (v3[(v4).toNat]?).bind fun x7=>some (.inl ((v3.set (v4).toNat (r6.1,r6.2)),(IntKind.i64.wrap (v4 + 1)))) else none else none else some (.inr v3)
theorem g103l1_b_eq  (v2:List (Int × Str)) (v3:List (Int × Str)) (v4:Int):X g103_S g103l1_cb (keepEnv [0,3,4] [(0,(.vs (rows v2))),(3,(ow 0 v3.length)),(4,(.int .i64 v4))]) [(ob 2 v3)] = (laws_toPutS_l1_b v2 v3 v4).map (Sum.elim (fun s=>(TX.nrm,[(0,(.vs (rows v2))),(3,(ow 0 s.1.length)),(4,(.int .i64 s.2))],[(ob 2 s.1)])) g103l1_F):=by
  simp (maxSteps:=2000000) (maxDischargeDepth:=8) -implicitDefEqProofs [g103l1_cb,laws_toPutS_l1_b,mksliceV_typed (z:=((0,([]:Str)):Int × Str)) (zs:=[(.int .i64 0),(.str [])]) rfl (by decide)] <;> (try simp only [map_to_bind,some_elim,g103l1_F])
def laws_toPutS_l1 (v2:List (Int × Str)) (s:(List (Int × Str)) × Int):Option ((List (Int × Str))):=loopO (fun s=>laws_toPutS_l1_b v2 s.1 s.2) s
@[simp] theorem g103l1_eq (y0)(y1:List (Int × Str))(y2){n1:Nat}(h1:n1 = y1.length):X g103_S g103l1_c [(0,(.vs (rows y0))),(3,(ow 0 n1)),(4,(.int .i64 y2))] [(ob 2 y1)] = (laws_toPutS_l1 y0 (y1,y2)).map g103l1_F:=by
  subst h1
  exact loop_X _ _ _ _ (by intro r; first | (simp; done) | (rcases r with r | r <;> simp; done) | (rcases r with r | r | r <;> simp; done) | (rcases r with r | r | r | r <;> simp)) (fun s=>g103l1_b_eq  y0 s.1 s.2) (y1,y2)
def laws_toPutS (a_a:List (Int × Str)):Option ((List (Int × Str))):=(mkL 24 ((a_a.length:Int)) ((a_a.length:Int)) ((0,([]:Str)):Int × Str)).bind fun l1=>(laws_toPutS_l1 a_a ((l1,0))).bind fun r8=>some r8
@[simp] def g103_O:((List (Int × Str))) → TV × List Blk:=fun r=>((ow 0 r.length),[(ob 2 r)])
def g103_E (a:(List (Int × Str))):List TV:=[(.vs (rows a))]
theorem g103_run (a_a:List (Int × Str)) :callFn (X g103_S) g103_tf (g103_E a_a) [] = (laws_toPutS a_a).map g103_O:=by
  rw [callFn_eq]
  simp (maxSteps:=2000000) (maxDischargeDepth:=8) -implicitDefEqProofs [g103_tf,laws_toPutS,g103_E,mksliceV_typed (z:=((0,([]:Str)):Int × Str)) (zs:=[(.int .i64 0),(.str [])]) rfl (by decide)] <;> (try simp only [map_to_bind,some_elim,g103_O])
def g103_r:Rule:=RlO g103_E (fun a=>laws_toPutS a) g103_O
theorem g103_ok:RuleOk Tryz.prog 65 g103_r:=ok_rlo (S:=g103_S) (tf:=g103_tf) (SysOk.on ⟨g116_ok,trivial⟩ trivial) (trE_ok (ks:=[[0,3,4]]) Tryz.func65 (by kernel_rfl)) fun a=>g103_run a
@[simp] theorem g103_app (y0):g103_r [(.vs (rows y0))] = (laws_toPutS y0).map g103_O :=
  RlO_app (enc:=g103_E) (by intro a b h; simp [g103_E,Prod.ext_iff] at h ⊢; simp [h]) y0
/-! laws.toDisk -/
def g104_tf:TFn:=⟨(sq [bx 1 0,oo 2 (.alloc [.nils,.nils,(.int .i64 0),(.bool false)])] [1,2] (sq [oo 3 (.alloc [.nils,.nils,(.int .i64 0),(.bool false)])] [1,2,3] (sq [fa 4 0 1,ld 5 4,ca 6 64 [.t 5],fa 7 0 3,⟨none,none,(.store 1 (.t 7) (.t 6))⟩] [1,2,3] (sq [fa 8 1 1,ld 9 8,ca 10 65 [.t 9],fa 11 1 3,⟨none,none,(.store 1 (.t 11) (.t 10))⟩] [1,2,3] (sq [fa 12 2 1,ld 13 12,fa 14 2 3,⟨none,none,(.store 1 (.t 14) (.t 13))⟩] [1,2,3] (sq [fa 15 3 1,ld 16 15,fa 17 3 3,⟨none,none,(.store 1 (.t 17) (.t 16))⟩] [2,3] (.seq (.ops [ln 18 4 3,⟨none,none,(.store 4 (.t 2) (.t 18))⟩]) (.keep (kp [(2,0)] [(1,2),(3,1),(4,1)] 0) .ret)))))))),[.cell 2 (some 4)]⟩
abbrev g104_S:=Sys.on [(64,g60_r),(65,g103_r)] []
def laws_toDisk (a_a:K0):Option (K0):=(laws_toStringS a_a.1).bind fun r1=>(laws_toPutS a_a.2.1).bind fun r2=>some ((r1,r2,a_a.2.2.1,a_a.2.2.2))
@[simp] def g104_O:(K0) → TV × List Blk:=fun r=>((.agg [(ow 1 r.1.length),(ow 2 r.2.1.length),(.int .i64 r.2.2.1),(.bool r.2.2.2)]),[(.live 4 [[(ow 1 r.1.length),(ow 2 r.2.1.length),(.int .i64 r.2.2.1),(.bool r.2.2.2)]]),(ob 1 r.1),(ob 2 r.2.1)])
def g104_E (a:K0):List TV:=[(.agg [(.vs (rows a.1)),(.vs (rows a.2.1)),(.int .i64 a.2.2.1),(.bool a.2.2.2)])]
theorem g104_run (a_a:K0) :callFn (X g104_S) g104_tf (g104_E a_a) [] = (laws_toDisk a_a).map g104_O:=by
  rw [callFn_eq]
  simp (maxSteps:=2000000) (maxDischargeDepth:=8) -implicitDefEqProofs [g104_tf,laws_toDisk,g104_E] <;> (try simp only [map_to_bind,some_elim,g104_O])
def g104_r:Rule:=RlO g104_E (fun a=>laws_toDisk a) g104_O
theorem g104_ok:RuleOk Tryz.prog 27 g104_r:=ok_rlo (S:=g104_S) (tf:=g104_tf) (SysOk.on ⟨g60_ok,g103_ok,trivial⟩ trivial) (trE_ok (ks:=[]) Tryz.func27 (by kernel_rfl)) fun a=>g104_run a
@[simp] theorem g104_app (y0 y1 y2 y3):g104_r [(.agg [(.vs (rows y0)),(.vs (rows y1)),(.int .i64 y2),(.bool y3)])] = (laws_toDisk ((y0,y1,y2,y3))).map g104_O :=
  RlO_app (enc:=g104_E) (by intro a b h; simp [g104_E,Prod.ext_iff] at h ⊢; simp [h]) ((y0,y1,y2,y3))
/-! laws.toSuper -/
def g82_tf:TFn:=⟨(sq [bx 1 0,oo 2 (.alloc [(.int .i64 0),(.int .i64 0),(.int .i64 0),(.int .i64 0)])] [1,2] (sq [oo 3 (.alloc [(.int .i64 0),(.int .i64 0),(.int .i64 0),(.int .i64 0)])] [1,2,3] (sq [fa 4 0 1,ld 5 4,fa 6 0 3,⟨none,none,(.store 1 (.t 6) (.t 5))⟩] [1,2,3] (sq [fa 7 1 1,ld 8 7,fa 9 1 3,⟨none,none,(.store 1 (.t 9) (.t 8))⟩] [1,2,3] (sq [fa 10 2 1,ld 11 10,fa 12 2 3,⟨none,none,(.store 1 (.t 12) (.t 11))⟩] [1,2,3] (sq [fa 13 3 1,ld 14 13,fa 15 3 3,⟨none,none,(.store 1 (.t 15) (.t 14))⟩] [2,3] (.seq (.ops [ln 16 4 3,⟨none,none,(.store 4 (.t 2) (.t 16))⟩]) (.keep (kp [(2,0)] [(1,0)] 0) .ret)))))))),[.cell 2 (some 4)]⟩
abbrev g82_S:=Sys.on [] []
def laws_toSuper (a_a:Int × Int × Int × Int):Option ((Int × Int × Int × Int)):=some a_a
@[simp] def g82_O:((Int × Int × Int × Int)) → TV × List Blk:=fun r=>((.agg [(.int .i64 r.1),(.int .i64 r.2.1),(.int .i64 r.2.2.1),(.int .i64 r.2.2.2)]),[(.live 4 [[(.int .i64 r.1),(.int .i64 r.2.1),(.int .i64 r.2.2.1),(.int .i64 r.2.2.2)]])])
def g82_E (a:(Int × Int × Int × Int)):List TV:=[(.agg [(.int .i64 a.1),(.int .i64 a.2.1),(.int .i64 a.2.2.1),(.int .i64 a.2.2.2)])]
theorem g82_run (a_a:Int × Int × Int × Int) :callFn (X g82_S) g82_tf (g82_E a_a) [] = (laws_toSuper a_a).map g82_O:=by
  rw [callFn_eq]
  simp (maxSteps:=2000000) (maxDischargeDepth:=8) -implicitDefEqProofs [g82_tf,laws_toSuper,g82_E] <;> (try simp only [map_to_bind,some_elim,g82_O])
def g82_r:Rule:=RlO g82_E (fun a=>laws_toSuper a) g82_O
theorem g82_ok:RuleOk Tryz.prog 28 g82_r:=ok_rlo (S:=g82_S) (tf:=g82_tf) (SysOk.on trivial trivial) (trE_ok (ks:=[]) Tryz.func28 (by kernel_rfl)) fun a=>g82_run a
@[simp] theorem g82_app (y0 y1 y2 y3):g82_r [(.agg [(.int .i64 y0),(.int .i64 y1),(.int .i64 y2),(.int .i64 y3)])] = (laws_toSuper ((y0,y1,y2,y3))).map g82_O :=
  RlO_app (enc:=g82_E) (by intro a b h; simp [g82_E,Prod.ext_iff] at h ⊢; simp [h]) ((y0,y1,y2,y3))
/-! laws.toPage -/
def g105_tf:TFn:=⟨(sq [bx 1 0,oo 2 (.alloc [(.int .i64 0),(.str [])])] [1,2] (sq [oo 3 (.alloc [(.int .i64 0),(.str [])])] [1,2,3] (sq [fa 4 0 1,ld 5 4,fa 6 0 3,⟨none,none,(.store 1 (.t 6) (.t 5))⟩] [1,2,3] (sq [fa 7 1 1,ld 8 7,fa 9 1 3,⟨none,none,(.store 1 (.t 9) (.t 8))⟩] [2,3] (.seq (.ops [ln 10 2 3,⟨none,none,(.store 2 (.t 2) (.t 10))⟩]) (.keep (kp [(2,0)] [(1,0)] 0) .ret)))))),[.cell 2 (some 2)]⟩
abbrev g105_S:=Sys.on [] []
def laws_toPage (a_a:Int × Str):Option ((Int × Str)):=some a_a
@[simp] def g105_O:((Int × Str)) → TV × List Blk:=fun r=>((.agg [(.int .i64 r.1),(.str r.2)]),[(.live 2 [[(.int .i64 r.1),(.str r.2)]])])
def g105_E (a:(Int × Str)):List TV:=[(.agg [(.int .i64 a.1),(.str a.2)])]
theorem g105_run (a_a:Int × Str) :callFn (X g105_S) g105_tf (g105_E a_a) [] = (laws_toPage a_a).map g105_O:=by
  rw [callFn_eq]
  simp (maxSteps:=2000000) (maxDischargeDepth:=8) -implicitDefEqProofs [g105_tf,laws_toPage,g105_E] <;> (try simp only [map_to_bind,some_elim,g105_O])
def g105_r:Rule:=RlO g105_E (fun a=>laws_toPage a) g105_O
theorem g105_ok:RuleOk Tryz.prog 66 g105_r:=ok_rlo (S:=g105_S) (tf:=g105_tf) (SysOk.on trivial trivial) (trE_ok (ks:=[]) Tryz.func66 (by kernel_rfl)) fun a=>g105_run a
@[simp] theorem g105_app (y0 y1):g105_r [(.agg [(.int .i64 y0),(.str y1)])] = (laws_toPage ((y0,y1))).map g105_O :=
  RlO_app (enc:=g105_E) (by intro a b h; simp [g105_E,Prod.ext_iff] at h ⊢; simp [h]) ((y0,y1))
/-! laws.toPageS -/
def g83l1_cb:TC:=(.seq (sq [mo 8 4,mo 9 0,le 10 9,bn 11 .lss (.t 8) (.t 10)] [0,3,4,11] (.cond (.t 11) .skip (.keep (kp [(3,1)] [(0,1)] 0) (.exit 0)))) (.trim [0,3,4] (.seq (.block 1 (.ops [mo 14 3,mo 15 4,mo 16 0,mo 17 4,ia 18 2 16 17,ln 19 2 18,ca 20 66 [.t 19],ia 21 2 14 15,⟨none,none,(.store 2 (.t 21) (.t 20))⟩])) (.trim [0,3,4] (.after (.ops [mo 12 4,bn 13 .add (.t 12) (ki 1),mo 4 13]) (kp [(0,0),(3,1),(4,0)] [(0,1)] 0))))))
def g83l1_c:TC:=.loop [0,3,4] g83l1_cb
def g83_tf:TFn:=⟨(sq [mk 2 (.c .nils)] [0] (sq [mo 5 0,le 6 5,oo 7 (.mkslice 24 [(.int .i64 0),(.str [])] (.t 6) (.t 6)),mo 3 7] [0,3] (.seq (sq [mk 4 (ki 0)] [0,3,4] (.block 0 (.keep (kp [(0,0),(3,1),(4,0)] [(0,1)] 0) g83l1_c))) (.trim [3] (.seq (.ops [mo 22 3,mo 2 22]) (.keep (kp [(2,1)] [(0,1)] 0) .ret)))))),[.t 2]⟩
abbrev g83_S:=Sys.on [(66,g105_r)] []
@[reducible,simp] def g83l1_F:((List (Int × Str))) → Out:=(fun t=>(.ext 0,[(3,(ow 0 t.length))],[(ob 2 t)]))
def laws_toPageS_l1_b (v2:List (Int × Str)) (v3:List (Int × Str)) (v4:Int):Option (((List (Int × Str)) × Int) ⊕ ((List (Int × Str)))):=if v4 < (v2.length:Int) then if 0 ≤ v4 then (v2[(v4).toNat]?).bind fun x5=>(laws_toPage x5).bind fun r6=>if 0 ≤ v4 ∧ v4 < ((v3.length:Nat):Int) then (v3[(v4).toNat]?).bind fun x7=>some (.inl ((v3.set (v4).toNat (r6.1,r6.2)),(IntKind.i64.wrap (v4 + 1)))) else none else none else some (.inr v3)
theorem g83l1_b_eq  (v2:List (Int × Str)) (v3:List (Int × Str)) (v4:Int):X g83_S g83l1_cb (keepEnv [0,3,4] [(0,(.vs (rows v2))),(3,(ow 0 v3.length)),(4,(.int .i64 v4))]) [(ob 2 v3)] = (laws_toPageS_l1_b v2 v3 v4).map (Sum.elim (fun s=>(TX.nrm,[(0,(.vs (rows v2))),(3,(ow 0 s.1.length)),(4,(.int .i64 s.2))],[(ob 2 s.1)])) g83l1_F):=by
  simp (maxSteps:=2000000) (maxDischargeDepth:=8) -implicitDefEqProofs [g83l1_cb,laws_toPageS_l1_b,mksliceV_typed (z:=((0,([]:Str)):Int × Str)) (zs:=[(.int .i64 0),(.str [])]) rfl (by decide)] <;> (try simp only [map_to_bind,some_elim,g83l1_F])
def laws_toPageS_l1 (v2:List (Int × Str)) (s:(List (Int × Str)) × Int):Option ((List (Int × Str))):=loopO (fun s=>laws_toPageS_l1_b v2 s.1 s.2) s
@[simp] theorem g83l1_eq (y0)(y1:List (Int × Str))(y2){n1:Nat}(h1:n1 = y1.length):X g83_S g83l1_c [(0,(.vs (rows y0))),(3,(ow 0 n1)),(4,(.int .i64 y2))] [(ob 2 y1)] = (laws_toPageS_l1 y0 (y1,y2)).map g83l1_F:=by
  subst h1
  exact loop_X _ _ _ _ (by intro r; first | (simp; done) | (rcases r with r | r <;> simp; done) | (rcases r with r | r | r <;> simp; done) | (rcases r with r | r | r | r <;> simp)) (fun s=>g83l1_b_eq  y0 s.1 s.2) (y1,y2)
def laws_toPageS (a_a:List (Int × Str)):Option ((List (Int × Str))):=(mkL 24 ((a_a.length:Int)) ((a_a.length:Int)) ((0,([]:Str)):Int × Str)).bind fun l1=>(laws_toPageS_l1 a_a ((l1,0))).bind fun r8=>some r8
@[simp] def g83_O:((List (Int × Str))) → TV × List Blk:=fun r=>((ow 0 r.length),[(ob 2 r)])
def g83_E (a:(List (Int × Str))):List TV:=[(.vs (rows a))]
theorem g83_run (a_a:List (Int × Str)) :callFn (X g83_S) g83_tf (g83_E a_a) [] = (laws_toPageS a_a).map g83_O:=by
  rw [callFn_eq]
  simp (maxSteps:=2000000) (maxDischargeDepth:=8) -implicitDefEqProofs [g83_tf,laws_toPageS,g83_E,mksliceV_typed (z:=((0,([]:Str)):Int × Str)) (zs:=[(.int .i64 0),(.str [])]) rfl (by decide)] <;> (try simp only [map_to_bind,some_elim,g83_O])
def g83_r:Rule:=RlO g83_E (fun a=>laws_toPageS a) g83_O
theorem g83_ok:RuleOk Tryz.prog 29 g83_r:=ok_rlo (S:=g83_S) (tf:=g83_tf) (SysOk.on ⟨g105_ok,trivial⟩ trivial) (trE_ok (ks:=[[0,3,4]]) Tryz.func29 (by kernel_rfl)) fun a=>g83_run a
@[simp] theorem g83_app (y0):g83_r [(.vs (rows y0))] = (laws_toPageS y0).map g83_O :=
  RlO_app (enc:=g83_E) (by intro a b h; simp [g83_E,Prod.ext_iff] at h ⊢; simp [h]) y0
/-! laws.toPager -/
def g84_tf:TFn:=⟨(sq [bx 1 0,oo 2 (.alloc [.nils,.nils,(.int .i64 0),(.bool false),(.int .i64 0),(.int .i64 0),(.int .i64 0),(.int .i64 0),(.int .i64 0),(.int .i64 0),.nils,.nils])] [1,2] (sq [oo 3 (.alloc [.nils,.nils,(.int .i64 0),(.bool false),(.int .i64 0),(.int .i64 0),(.int .i64 0),(.int .i64 0),(.int .i64 0),(.int .i64 0),.nils,.nils])] [1,2,3] (sq [fa 4 0 1,ln 5 4 4,ca 6 27 [.t 5],fa 7 0 3,⟨none,none,(.store 4 (.t 7) (.t 6))⟩] [1,2,3] (sq [fa 8 4 1,ln 9 4 8,ca 10 28 [.t 9],fa 11 4 3,⟨none,none,(.store 4 (.t 11) (.t 10))⟩] [1,2,3] (sq [fa 12 8 1,ld 13 12,fa 14 8 3,⟨none,none,(.store 1 (.t 14) (.t 13))⟩] [1,2,3] (sq [fa 15 9 1,ld 16 15,fa 17 9 3,⟨none,none,(.store 1 (.t 17) (.t 16))⟩] [1,2,3] (sq [fa 18 10 1,ld 19 18,ca 20 29 [.t 19],fa 21 10 3,⟨none,none,(.store 1 (.t 21) (.t 20))⟩] [1,2,3] (sq [fa 22 11 1,ld 23 22,ca 24 29 [.t 23],fa 25 11 3,⟨none,none,(.store 1 (.t 25) (.t 24))⟩] [2,3] (.seq (.ops [ln 26 12 3,⟨none,none,(.store 12 (.t 2) (.t 26))⟩]) (.keep (kp [(2,0)] [(1,2),(4,1),(5,1),(7,1),(8,1)] 0) .ret)))))))))),[.cell 2 (some 12)]⟩
abbrev g84_S:=Sys.on [(27,g104_r),(28,g82_r),(29,g83_r)] []
def laws_toPager (a_a:K1):Option (K1):=(laws_toDisk a_a.1).bind fun r1=>(laws_toSuper a_a.2.1).bind fun r2=>(laws_toPageS a_a.2.2.2.2.1).bind fun r3=>(laws_toPageS a_a.2.2.2.2.2).bind fun r4=>some ((r1,r2,a_a.2.2.1,a_a.2.2.2.1,r3,r4))
@[simp] def g84_O:(K1) → TV × List Blk:=fun r=>((.agg [(ow 1 r.1.1.length),(ow 2 r.1.2.1.length),(.int .i64 r.1.2.2.1),(.bool r.1.2.2.2),(.int .i64 r.2.1.1),(.int .i64 r.2.1.2.1),(.int .i64 r.2.1.2.2.1),(.int .i64 r.2.1.2.2.2),(.int .i64 r.2.2.1),(.int .i64 r.2.2.2.1),(ow 3 r.2.2.2.2.1.length),(ow 4 r.2.2.2.2.2.length)]),[(.live 12 [[(ow 1 r.1.1.length),(ow 2 r.1.2.1.length),(.int .i64 r.1.2.2.1),(.bool r.1.2.2.2),(.int .i64 r.2.1.1),(.int .i64 r.2.1.2.1),(.int .i64 r.2.1.2.2.1),(.int .i64 r.2.1.2.2.2),(.int .i64 r.2.2.1),(.int .i64 r.2.2.2.1),(ow 3 r.2.2.2.2.1.length),(ow 4 r.2.2.2.2.2.length)]]),(ob 1 r.1.1),(ob 2 r.1.2.1),(ob 2 r.2.2.2.2.1),(ob 2 r.2.2.2.2.2)])
def g84_E (a:K1):List TV:=[(.agg [(.vs (rows a.1.1)),(.vs (rows a.1.2.1)),(.int .i64 a.1.2.2.1),(.bool a.1.2.2.2),(.int .i64 a.2.1.1),(.int .i64 a.2.1.2.1),(.int .i64 a.2.1.2.2.1),(.int .i64 a.2.1.2.2.2),(.int .i64 a.2.2.1),(.int .i64 a.2.2.2.1),(.vs (rows a.2.2.2.2.1)),(.vs (rows a.2.2.2.2.2))])]
theorem g84_run (a_a:K1) :callFn (X g84_S) g84_tf (g84_E a_a) [] = (laws_toPager a_a).map g84_O:=by
  rw [callFn_eq]
  simp (maxSteps:=2000000) (maxDischargeDepth:=8) -implicitDefEqProofs [g84_tf,laws_toPager,g84_E] <;> (try simp only [map_to_bind,some_elim,g84_O])
def g84_r:Rule:=RlO g84_E (fun a=>laws_toPager a) g84_O
theorem g84_ok:RuleOk Tryz.prog 8 g84_r:=ok_rlo (S:=g84_S) (tf:=g84_tf) (SysOk.on ⟨g104_ok,g82_ok,g83_ok,trivial⟩ trivial) (trE_ok (ks:=[]) Tryz.func8 (by kernel_rfl)) fun a=>g84_run a
@[simp] theorem g84_app (y0 y1 y2 y3 y4 y5 y6 y7 y8 y9 y10 y11):g84_r [(.agg [(.vs (rows y0)),(.vs (rows y1)),(.int .i64 y2),(.bool y3),(.int .i64 y4),(.int .i64 y5),(.int .i64 y6),(.int .i64 y7),(.int .i64 y8),(.int .i64 y9),(.vs (rows y10)),(.vs (rows y11))])] = (laws_toPager (((y0,y1,y2,y3),(y4,y5,y6,y7),y8,y9,y10,y11))).map g84_O :=
  RlO_app (enc:=g84_E) (by intro a b h; simp [g84_E,Prod.ext_iff] at h ⊢; simp [h]) (((y0,y1,y2,y3),(y4,y5,y6,y7),y8,y9,y10,y11))
/-! spec.l00In -/
def g117_tf:TFn:=⟨(sq [mk 6 (kb false)] [0,1,2] (.seq (.after (.ops [mo 7 0,mo 8 1,bn 9 .geq (.t 7) (.t 8),mo 10 9,⟨(some 11),(some (10,true)),(.mv (.t 0))⟩,⟨(some 12),(some (10,true)),(.mv (.t 2))⟩,⟨(some 13),(some (10,true)),(.bin .num .leq (.t 11) (.t 12))⟩,pk 14 (.t 10) (.t 13) (kb false),mo 6 14]) (kp [(6,0)] [] 0)) (.keep (kp [(6,0)] [] 0) .ret))),[.t 6]⟩
abbrev g117_S:=Sys.on [] []
def spec_l00In (a_n:Int) (a_low:Int) (a_high:Int):Option (Bool):=if a_n ≥ a_low then some ((decide (a_n ≤ a_high))) else some false
@[simp] def g117_O:Bool → TV × List Blk:=fun r=>((.bool r),[])
def g117_E (a:Int × Int × Int):List TV:=[(.int .i64 a.1),(.int .i64 a.2.1),(.int .i64 a.2.2)]
theorem g117_run (a_n:Int) (a_low:Int) (a_high:Int) :callFn (X g117_S) g117_tf (g117_E (a_n,a_low,a_high)) [] = (spec_l00In a_n a_low a_high).map g117_O:=by
  rw [callFn_eq]
  simp (maxSteps:=2000000) (maxDischargeDepth:=8) -implicitDefEqProofs [g117_tf,spec_l00In,g117_E] <;> (try simp only [map_to_bind,some_elim,g117_O])
def g117_r:Rule:=RlO g117_E (fun a=>spec_l00In a.1 a.2.1 a.2.2) g117_O
theorem g117_ok:RuleOk Tryz.prog 54 g117_r:=ok_rlo (S:=g117_S) (tf:=g117_tf) (SysOk.on trivial trivial) (trE_ok (ks:=[]) Tryz.func54 (by kernel_rfl)) fun a=>g117_run a.1 a.2.1 a.2.2
@[simp] theorem g117_app (y0 y1 y2):g117_r [(.int .i64 y0),(.int .i64 y1),(.int .i64 y2)] = (spec_l00In y0 y1 y2).map g117_O :=
  RlO_app (enc:=g117_E) (by intro a b h; simp [g117_E,Prod.ext_iff] at h ⊢; simp [h]) (y0,y1,y2)
/-! spec.l09Ok -/
def g118l1_cb:TC:=(.seq (sq [mo 30 4,mo 31 0,nk 32 31,fa 33 0 32,ld 34 33,le 35 34,bn 36 .lss (.t 30) (.t 35)] [0,3,4,36] (.cond (.t 36) .skip (.keep (kp [(0,0),(3,0)] [] 0) (.exit 0)))) (.trim [0,3,4] (.seq (.block 1 (sq [mo 39 0,nk 40 39,fa 41 0 40,ld 42 41,mo 43 4,ia 44 1 42 43,ld 45 44,oo 46 (.len true (.t 45)),bn 47 .neq (.t 46) (ki 64)] [0,3,4,47] (.cond (.t 47) (.seq (.ops [mk 2 (kb false)]) (.keep (kp [(2,0)] [] 0) .ret)) .skip))) (.trim [0,3,4] (.after (.ops [mo 37 4,bn 38 .add (.t 37) (ki 1),mo 4 38]) (kp [(0,0),(3,0),(4,0)] [] 0))))))
def g118l1_c:TC:=.loop [0,3,4] g118l1_cb
def g118l2_cb:TC:=(.seq (sq [mo 48 5,mo 49 0,nk 50 49,fa 51 1 50,ld 52 51,le 53 52,bn 54 .lss (.t 48) (.t 53)] [0,3,5,54] (.cond (.t 54) .skip (.keep (kp [] [] 0) (.exit 2)))) (.trim [0,3,5] (.seq (.block 3 (sq [mo 57 0,nk 58 57,fa 59 1 58,ld 60 59,mo 61 5,ia 62 2 60 61,fa 63 0 62,ld 64 63,mo 65 3,bn 66 .sub (.t 65) (ki 1),ca 67 54 [.t 64,ki 0,.t 66],nt 68 67,mo 69 68,⟨(some 70),(some (69,false)),(.mv (.t 0))⟩,⟨(some 71),(some (69,false)),(.nilchk (.t 70))⟩,⟨(some 72),(some (69,false)),(.faddr 1 (.t 71))⟩,⟨(some 73),(some (69,false)),(.load none (.t 72))⟩,⟨(some 74),(some (69,false)),(.mv (.t 5))⟩,⟨(some 75),(some (69,false)),(.iaddr 2 (.t 73) (.t 74))⟩,⟨(some 76),(some (69,false)),(.faddr 1 (.t 75))⟩,⟨(some 77),(some (69,false)),(.load none (.t 76))⟩,⟨(some 78),(some (69,false)),(.len true (.t 77))⟩,⟨(some 79),(some (69,false)),(.bin .num .neq (.t 78) (ki 64))⟩,pk 80 (.t 69) (kb true) (.t 79)] [0,3,5,80] (.cond (.t 80) (.seq (.ops [mk 2 (kb false)]) (.keep (kp [(2,0)] [] 0) .ret)) .skip))) (.trim [0,3,5] (.after (.ops [mo 55 5,bn 56 .add (.t 55) (ki 1),mo 5 56]) (kp [(0,0),(3,0),(5,0)] [] 0))))))
def g118l2_c:TC:=.loop [0,3,5] g118l2_cb
def g118_tf:TFn:=⟨(sq [mk 2 (kb false)] [0] (sq [mo 6 0,nk 7 6,fa 8 0 7,ld 9 8,le 10 9,mo 3 10] [0,3] (.seq (sq [mo 11 3,ca 12 54 [.t 11,ki 16,ki 256],nt 13 12,mo 14 13,⟨(some 15),(some (14,false)),(.mv (.t 0))⟩,⟨(some 16),(some (14,false)),(.nilchk (.t 15))⟩,⟨(some 17),(some (14,false)),(.faddr 1 (.t 16))⟩,⟨(some 18),(some (14,false)),(.load none (.t 17))⟩,⟨(some 19),(some (14,false)),(.len false (.t 18))⟩,⟨(some 20),(some (14,false)),(.bin .num .gtr (.t 19) (ki 600))⟩,pk 21 (.t 14) (kb true) (.t 20),mo 22 21,⟨(some 23),(some (22,false)),(.mv (.t 0))⟩,⟨(some 24),(some (22,false)),(.nilchk (.t 23))⟩,⟨(some 25),(some (22,false)),(.faddr 2 (.t 24))⟩,⟨(some 26),(some (22,false)),(.load none (.t 25))⟩,⟨(some 27),(some (22,false)),(.call 54 [.t 26,(ki (-1)),ki 100000])⟩,⟨(some 28),(some (22,false)),(.un .not (.t 27))⟩,pk 29 (.t 22) (kb true) (.t 28)] [0,3,29] (.cond (.t 29) (.seq (.ops [mk 2 (kb false)]) (.keep (kp [(2,0)] [] 0) .ret)) .skip)) (.trim [0,3] (.seq (sq [mk 4 (ki 0)] [0,3,4] (.block 0 (.keep (kp [(0,0),(3,0),(4,0)] [] 0) g118l1_c))) (.trim [0,3] (.seq (sq [mk 5 (ki 0)] [0,3,5] (.block 2 (.keep (kp [(0,0),(3,0),(5,0)] [] 0) g118l2_c))) (.trim [] (.seq (.ops [mk 2 (kb true)]) (.keep (kp [(2,0)] [] 0) .ret)))))))))),[.t 2]⟩
abbrev g118_S:=Sys.on [(54,g117_r)] []
def spec_l09Ok_l1_b (v3:List Str) (v4:List (Int × Str)) (v5:Int) (v6:Bool) (v7:Int) (v8:Int):Option ((Int) ⊕ ((List Str × (List (Int × Str)) × Int × Bool × Int) ⊕ (Bool))):=if v8 < (v3.length:Int) then if 0 ≤ v8 then (v3[(v8).toNat]?).bind fun x9=>if ¬((x9.length:Int) = 64) then some (.inr (.inr false)) else some (.inl ((IntKind.i64.wrap (v8 + 1)))) else none else some (.inr (.inl (v3,v4,v5,v6,v7)))
theorem g118l1_b_eq (q0:List TV) (v3:List Str) (v4:List (Int × Str)) (v5:Int) (v6:Bool) (v7:Int) (v8:Int):X g118_S g118l1_cb (keepEnv [0,3,4] [(0,(.vp ((.vs (rows v3))::(.vs (rows v4))::(.int .i64 v5)::(.bool v6)::q0))),(3,(.int .i64 v7)),(4,(.int .i64 v8))]) [] = (spec_l09Ok_l1_b v3 v4 v5 v6 v7 v8).map (Sum.elim (fun s=>(TX.nrm,[(0,(.vp ((.vs (rows v3))::(.vs (rows v4))::(.int .i64 v5)::(.bool v6)::q0))),(3,(.int .i64 v7)),(4,(.int .i64 s))],[])) (Sum.elim (fun t=>(.ext 0,[(0,(.vp ((.vs (rows t.1))::(.vs (rows t.2.1))::(.int .i64 t.2.2.1)::(.bool t.2.2.2.1)::q0))),(3,(.int .i64 t.2.2.2.2))],[])) (fun t=>(.ret,[(2,(.bool t))],[])))):=by
  simp (maxSteps:=2000000) (maxDischargeDepth:=8) -implicitDefEqProofs [g118l1_cb,spec_l09Ok_l1_b] <;> (try simp only [map_to_bind,some_elim])
def spec_l09Ok_l1 (v3:List Str) (v4:List (Int × Str)) (v5:Int) (v6:Bool) (v7:Int) (s:Int):Option ((List Str × (List (Int × Str)) × Int × Bool × Int) ⊕ (Bool)):=loopO (fun s=>spec_l09Ok_l1_b v3 v4 v5 v6 v7 s) s
@[simp] theorem g118l1_eq (q0:List TV)(y0 y1 y2 y3 y4 y5):X g118_S g118l1_c [(0,(.vp ((.vs (rows y0))::(.vs (rows y1))::(.int .i64 y2)::(.bool y3)::q0))),(3,(.int .i64 y4)),(4,(.int .i64 y5))] [] = (spec_l09Ok_l1 y0 y1 y2 y3 y4 y5).map (Sum.elim (fun t=>(.ext 0,[(0,(.vp ((.vs (rows t.1))::(.vs (rows t.2.1))::(.int .i64 t.2.2.1)::(.bool t.2.2.2.1)::q0))),(3,(.int .i64 t.2.2.2.2))],[])) (fun t=>(.ret,[(2,(.bool t))],[]))):=by
  exact loop_X _ _ _ _ (by intro r; first | (simp; done) | (rcases r with r | r <;> simp; done) | (rcases r with r | r | r <;> simp; done) | (rcases r with r | r | r | r <;> simp)) (fun s=>g118l1_b_eq q0 y0 y1 y2 y3 y4 s) y5
@[reducible,simp] def g118l2_F:((Unit) ⊕ (Bool)) → Out:=(Sum.elim (fun t=>(.ext 2,[],[])) (fun t=>(.ret,[(2,(.bool t))],[])))
def spec_l09Ok_l2_b (v13:List Str) (v14:List (Int × Str)) (v15:Int) (v16:Bool) (v17:Int) (v18:Int):Option ((Int) ⊕ ((Unit) ⊕ (Bool))):=if v18 < (v14.length:Int) then if 0 ≤ v18 then (v14[(v18).toNat]?).bind fun x19=>(spec_l00In x19.1 0 ((IntKind.i64.wrap (v17 - 1)))).bind fun r20=>if ¬(r20 = true) then some (.inr (.inr false)) else if 0 ≤ v18 then (v14[(v18).toNat]?).bind fun x21=>if ¬((x21.2.length:Int) = 64) then some (.inr (.inr false)) else some (.inl ((IntKind.i64.wrap (v18 + 1)))) else none else none else some (.inr (.inl ()))
theorem g118l2_b_eq (q0:List TV) (v13:List Str) (v14:List (Int × Str)) (v15:Int) (v16:Bool) (v17:Int) (v18:Int):X g118_S g118l2_cb (keepEnv [0,3,5] [(0,(.vp ((.vs (rows v13))::(.vs (rows v14))::(.int .i64 v15)::(.bool v16)::q0))),(3,(.int .i64 v17)),(5,(.int .i64 v18))]) [] = (spec_l09Ok_l2_b v13 v14 v15 v16 v17 v18).map (Sum.elim (fun s=>(TX.nrm,[(0,(.vp ((.vs (rows v13))::(.vs (rows v14))::(.int .i64 v15)::(.bool v16)::q0))),(3,(.int .i64 v17)),(5,(.int .i64 s))],[])) g118l2_F):=by
  simp (maxSteps:=2000000) (maxDischargeDepth:=8) -implicitDefEqProofs [g118l2_cb,spec_l09Ok_l2_b] <;> (try simp only [map_to_bind,some_elim,g118l2_F])
def spec_l09Ok_l2 (v13:List Str) (v14:List (Int × Str)) (v15:Int) (v16:Bool) (v17:Int) (s:Int):Option ((Unit) ⊕ (Bool)):=loopO (fun s=>spec_l09Ok_l2_b v13 v14 v15 v16 v17 s) s
@[simp] theorem g118l2_eq (q0:List TV)(y0 y1 y2 y3 y4 y5):X g118_S g118l2_c [(0,(.vp ((.vs (rows y0))::(.vs (rows y1))::(.int .i64 y2)::(.bool y3)::q0))),(3,(.int .i64 y4)),(5,(.int .i64 y5))] [] = (spec_l09Ok_l2 y0 y1 y2 y3 y4 y5).map g118l2_F:=by
  exact loop_X _ _ _ _ (by intro r; first | (simp; done) | (rcases r with r | r <;> simp; done) | (rcases r with r | r | r <;> simp; done) | (rcases r with r | r | r | r <;> simp)) (fun s=>g118l2_b_eq q0 y0 y1 y2 y3 y4 s) y5
def spec_l09Ok (a_d:K0):Option (Bool):=(spec_l00In ((a_d.1.length:Int)) 16 256).bind fun r1=>if ¬(r1 = true) then some false else if (a_d.2.1.length:Int) > 600 then some false else (spec_l00In a_d.2.2.1 ((-1)) 100000).bind fun r2=>if ¬(r2 = true) then some false else (spec_l09Ok_l1 a_d.1 a_d.2.1 a_d.2.2.1 a_d.2.2.2 ((a_d.1.length:Int)) 0).bind fun r10=>Sum.elim (fun u11=>(spec_l09Ok_l2 u11.1 u11.2.1 u11.2.2.1 u11.2.2.2.1 u11.2.2.2.2 0).bind fun r22=>Sum.elim (fun u23=>some true) (fun u24=>some u24) r22) (fun u12=>some u12) r10
@[simp] def g118_O:Bool → TV × List Blk:=fun r=>((.bool r),[])
def g118_E (a:K0 × List TV):List TV:=[(.vp ((.vs (rows a.1.1))::(.vs (rows a.1.2.1))::(.int .i64 a.1.2.2.1)::(.bool a.1.2.2.2)::a.2))]
theorem g118_run (a_d:K0) (q0:List TV):callFn (X g118_S) g118_tf (g118_E (a_d,q0)) [] = (spec_l09Ok a_d).map g118_O:=by
  rw [callFn_eq]
  simp (maxSteps:=2000000) (maxDischargeDepth:=8) -implicitDefEqProofs [g118_tf,spec_l09Ok,g118_E] <;> (try simp only [map_to_bind,some_elim,g118_O])
def g118_r:Rule:=RlO g118_E (fun a=>spec_l09Ok a.1) g118_O
theorem g118_ok:RuleOk Tryz.prog 52 g118_r:=ok_rlo (S:=g118_S) (tf:=g118_tf) (SysOk.on ⟨g117_ok,trivial⟩ trivial) (trE_ok (ks:=[[0,3,4],[0,3,5]]) Tryz.func52 (by kernel_rfl)) fun a=>g118_run a.1 a.2
@[simp] theorem g118_app (y0 y1 y2 y3)(q0:List TV):g118_r [(.vp ((.vs (rows y0))::(.vs (rows y1))::(.int .i64 y2)::(.bool y3)::q0))] = (spec_l09Ok ((y0,y1,y2,y3))).map g118_O :=
  RlO_app (enc:=g118_E) (by intro a b h; simp [g118_E,Prod.ext_iff] at h ⊢; simp [h]) ((y0,y1,y2,y3),q0)
/-! spec.ValidSuper -/
def g46_tf:TFn:=⟨(sq [bx 1 0,mk 2 (kb false)] [1] (.seq (.after (.ops [fa 3 0 1,ld 4 3,ca 5 54 [.t 4,ki 16,ki 256],mo 6 5,⟨(some 7),(some (6,true)),(.faddr 1 (.t 1))⟩,⟨(some 8),(some (6,true)),(.load none (.t 7))⟩,⟨(some 9),(some (6,true)),(.call 54 [.t 8,ki 8,ki 64])⟩,pk 10 (.t 6) (.t 9) (kb false),mo 11 10,⟨(some 12),(some (11,true)),(.faddr 1 (.t 1))⟩,⟨(some 13),(some (11,true)),(.load none (.t 12))⟩,⟨(some 14),(some (11,true)),(.faddr 0 (.t 1))⟩,⟨(some 15),(some (11,true)),(.load none (.t 14))⟩,⟨(some 16),(some (11,true)),(.bin .num .sub (.t 15) (ki 4))⟩,⟨(some 17),(some (11,true)),(.bin .num .leq (.t 13) (.t 16))⟩,pk 18 (.t 11) (.t 17) (kb false),mo 19 18,⟨(some 20),(some (19,true)),(.faddr 2 (.t 1))⟩,⟨(some 21),(some (19,true)),(.load none (.t 20))⟩,⟨(some 22),(some (19,true)),(.call 54 [.t 21,ki 0,ki 1000000000000])⟩,pk 23 (.t 19) (.t 22) (kb false),mo 24 23,⟨(some 25),(some (24,true)),(.faddr 3 (.t 1))⟩,⟨(some 26),(some (24,true)),(.load none (.t 25))⟩,⟨(some 27),(some (24,true)),(.call 54 [.t 26,ki 0,ki 1000000000000])⟩,pk 28 (.t 24) (.t 27) (kb false),mo 2 28]) (kp [(2,0)] [] 0)) (.keep (kp [(2,0)] [] 0) .ret))),[.t 2]⟩
abbrev g46_S:=Sys.on [(54,g117_r)] []
def spec_ValidSuper (a_s:Int × Int × Int × Int):Option (Bool):=(spec_l00In a_s.1 16 256).bind fun r1=>if r1 = true then (spec_l00In a_s.2.1 8 64).bind fun r2=>if r2 = true then if a_s.2.1 ≤ (IntKind.i64.wrap (a_s.1 - 4)) then (spec_l00In a_s.2.2.1 0 1000000000000).bind fun r3=>if r3 = true then (spec_l00In a_s.2.2.2 0 1000000000000).bind fun r4=>some r4 else some false else some false else some false else some false
@[simp] def g46_O:Bool → TV × List Blk:=fun r=>((.bool r),[])
def g46_E (a:(Int × Int × Int × Int)):List TV:=[(.agg [(.int .i64 a.1),(.int .i64 a.2.1),(.int .i64 a.2.2.1),(.int .i64 a.2.2.2)])]
theorem g46_run (a_s:Int × Int × Int × Int) :callFn (X g46_S) g46_tf (g46_E a_s) [] = (spec_ValidSuper a_s).map g46_O:=by
  rw [callFn_eq]
  simp (maxSteps:=2000000) (maxDischargeDepth:=8) -implicitDefEqProofs [g46_tf,spec_ValidSuper,g46_E] <;> (try simp only [map_to_bind,some_elim,g46_O])
def g46_r:Rule:=RlO g46_E (fun a=>spec_ValidSuper a) g46_O
theorem g46_ok:RuleOk Tryz.prog 53 g46_r:=ok_rlo (S:=g46_S) (tf:=g46_tf) (SysOk.on ⟨g117_ok,trivial⟩ trivial) (trE_ok (ks:=[]) Tryz.func53 (by kernel_rfl)) fun a=>g46_run a
@[simp] theorem g46_app (y0 y1 y2 y3):g46_r [(.agg [(.int .i64 y0),(.int .i64 y1),(.int .i64 y2),(.int .i64 y3)])] = (spec_ValidSuper ((y0,y1,y2,y3))).map g46_O :=
  RlO_app (enc:=g46_E) (by intro a b h; simp [g46_E,Prod.ext_iff] at h ⊢; simp [h]) ((y0,y1,y2,y3))
/-! spec.l11Pages -/
def g73l1_cb:TC:=(.seq (sq [mo 7 3,mo 8 0,le 9 8,bn 10 .lss (.t 7) (.t 9)] [0,3,10] (.cond (.t 10) .skip (.keep (kp [] [] 0) (.exit 0)))) (.trim [0,3] (.seq (.block 1 (.seq (.draw [([],mo 13 0),([],mo 14 3),([0,1],ia 15 2 13 14),([0,1,2],fa 16 0 15),([0,1,2,3],ld 17 16),([0,1,2,3,4],ca 18 54 [.t 17,ki 0,ki 255]),([0,1,2,3,4,5],nt 19 18),([0,1,2,3,4,5,6],mo 20 19),([0,1,2,3,4,5,6,7],⟨(some 21),(some (20,false)),(.mv (.t 0))⟩),([0,1,2,3,4,5,6,7],⟨(some 22),(some (20,false)),(.mv (.t 3))⟩),([0,1,2,3,4,5,6,7,8,9],⟨(some 23),(some (20,false)),(.iaddr 2 (.t 21) (.t 22))⟩),([0,1,2,3,4,5,6,7,8,9,10],⟨(some 24),(some (20,false)),(.faddr 1 (.t 23))⟩),([0,1,2,3,4,5,6,7,8,9,10,11],⟨(some 25),(some (20,false)),(.load none (.t 24))⟩),([0,1,2,3,4,5,6,7,8,9,10,11,12],⟨(some 26),(some (20,false)),(.len true (.t 25))⟩),([0,1,2,3,4,5,6,7,8,9,10,11,12,13],⟨(some 27),(some (20,false)),(.bin .num .neq (.t 26) (ki 64))⟩),([0,1,2,3,4,5,6,7,8,9,10,11,12,13,14],pk 28 (.t 20) (kb true) (.t 27)),([0,1,2,3,4,5,6,7,8,9,10,11,12,13,14,15],mo 29 28),([0,1,2,3,4,5,6,7,8,9,10,11,12,13,14,15,16],⟨(some 30),(some (29,false)),(.mv (.t 3))⟩),([0,1,2,3,4,5,6,7,8,9,10,11,12,13,14,15,16,17],⟨(some 31),(some (29,false)),(.bin .num .gtr (.t 30) (ki 0))⟩),([0,1,2,3,4,5,6,7,8,9,10,11,12,13,14,15,16,17,18],⟨(some 32),(some (29,false)),(.mv (.t 31))⟩),([0,1,2,3,4,5,6,7,8,9,10,11,12,13,14,15,16,17,18,19],⟨(some 33),(some (32,true)),(.mv (.t 0))⟩),([0,1,2,3,4,5,6,7,8,9,10,11,12,13,14,15,16,17,18,19],⟨(some 34),(some (32,true)),(.mv (.t 3))⟩),([0,1,2,3,4,5,6,7,8,9,10,11,12,13,14,15,16,17,18,19,21],⟨(some 35),(some (32,true)),(.bin .num .sub (.t 34) (ki 1))⟩),([0,1,2,3,4,5,6,7,8,9,10,11,12,13,14,15,16,17,18,19,20,21,22],⟨(some 36),(some (32,true)),(.iaddr 2 (.t 33) (.t 35))⟩),([0,1,2,3,4,5,6,7,8,9,10,11,12,13,14,15,16,17,18,19,20,21,22,23],⟨(some 37),(some (32,true)),(.faddr 0 (.t 36))⟩),([0,1,2,3,4,5,6,7,8,9,10,11,12,13,14,15,16,17,18,19,20,21,22,23,24],⟨(some 38),(some (32,true)),(.load none (.t 37))⟩),([0,1,2,3,4,5,6,7,8,9,10,11,12,13,14,15,16,17,18,19],⟨(some 39),(some (32,true)),(.mv (.t 0))⟩),([0,1,2,3,4,5,6,7,8,9,10,11,12,13,14,15,16,17,18,19],⟨(some 40),(some (32,true)),(.mv (.t 3))⟩),([0,1,2,3,4,5,6,7,8,9,10,11,12,13,14,15,16,17,18,19,26,27],⟨(some 41),(some (32,true)),(.iaddr 2 (.t 39) (.t 40))⟩),([0,1,2,3,4,5,6,7,8,9,10,11,12,13,14,15,16,17,18,19,26,27,28],⟨(some 42),(some (32,true)),(.faddr 0 (.t 41))⟩),([0,1,2,3,4,5,6,7,8,9,10,11,12,13,14,15,16,17,18,19,26,27,28,29],⟨(some 43),(some (32,true)),(.load none (.t 42))⟩)] [⟨(some 44),(some (32,true)),(.bin .num .geq (.t 38) (.t 43))⟩,⟨(some 45),(some (29,false)),(.pick (.t 32) (.t 44) (kb false))⟩,pk 46 (.t 29) (kb true) (.t 45)]) (.trim [0,3,46] (.cond (.t 46) (.seq (.ops [mk 2 (kb false)]) (.keep (kp [(2,0)] [] 0) .ret)) (.keep (kp [(0,0),(3,0)] [] 0) .skip))))) (.trim [0,3] (.after (.ops [mo 11 3,bn 12 .add (.t 11) (ki 1),mo 3 12]) (kp [(0,0),(3,0)] [] 0))))))
def g73l1_c:TC:=.loop [0,3] g73l1_cb
def g73_tf:TFn:=⟨(sq [mk 2 (kb false)] [0] (.seq (sq [mo 4 0,le 5 4,bn 6 .gtr (.t 5) (ki 256)] [0,6] (.cond (.t 6) (.seq (.ops [mk 2 (kb false)]) (.keep (kp [(2,0)] [] 0) .ret)) .skip)) (.trim [0] (.seq (sq [mk 3 (ki 0)] [0,3] (.block 0 (.keep (kp [(0,0),(3,0)] [] 0) g73l1_c))) (.trim [] (.seq (.ops [mk 2 (kb true)]) (.keep (kp [(2,0)] [] 0) .ret))))))),[.t 2]⟩
abbrev g73_S:=Sys.on [(54,g117_r)] []
@[reducible,simp] def g73l1_F:((Unit) ⊕ (Bool)) → Out:=(Sum.elim (fun t=>(.ext 0,[],[])) (fun t=>(.ret,[(2,(.bool t))],[])))
def spec_l11Pages_l1_b (v1:List (Int × Str)) (v2:Int):Option ((Int) ⊕ ((Unit) ⊕ (Bool))):=if v2 < (v1.length:Int) then if 0 ≤ v2 then (v1[(v2).toNat]?).bind fun x3=>(spec_l00In x3.1 0 255).bind fun r4=>if ¬(r4 = true) then some (.inr (.inr false)) else if 0 ≤ v2 then (v1[(v2).toNat]?).bind fun x5=>if ¬((x5.2.length:Int) = 64) then some (.inr (.inr false)) else if v2 > 0 then if 0 ≤ (IntKind.i64.wrap (v2 - 1)) then (v1[((IntKind.i64.wrap (v2 - 1))).toNat]?).bind fun x6=>if 0 ≤ v2 then (v1[(v2).toNat]?).bind fun x7=>if x6.1 ≥ x7.1 then some (.inr (.inr false)) else some (.inl ((IntKind.i64.wrap (v2 + 1)))) else none else none else some (.inl ((IntKind.i64.wrap (v2 + 1)))) else none else none else some (.inr (.inl ()))
theorem g73l1_b_eq  (v1:List (Int × Str)) (v2:Int):X g73_S g73l1_cb (keepEnv [0,3] [(0,(.vs (rows v1))),(3,(.int .i64 v2))]) [] = (spec_l11Pages_l1_b v1 v2).map (Sum.elim (fun s=>(TX.nrm,[(0,(.vs (rows v1))),(3,(.int .i64 s))],[])) g73l1_F):=by
  simp (maxSteps:=2000000) (maxDischargeDepth:=8) -implicitDefEqProofs [g73l1_cb,spec_l11Pages_l1_b] <;> (try simp only [map_to_bind,some_elim,g73l1_F])
def spec_l11Pages_l1 (v1:List (Int × Str)) (s:Int):Option ((Unit) ⊕ (Bool)):=loopO (fun s=>spec_l11Pages_l1_b v1 s) s
@[simp] theorem g73l1_eq (y0 y1):X g73_S g73l1_c [(0,(.vs (rows y0))),(3,(.int .i64 y1))] [] = (spec_l11Pages_l1 y0 y1).map g73l1_F:=by
  exact loop_X _ _ _ _ (by intro r; first | (simp; done) | (rcases r with r | r <;> simp; done) | (rcases r with r | r | r <;> simp; done) | (rcases r with r | r | r | r <;> simp)) (fun s=>g73l1_b_eq  y0 s) y1
def spec_l11Pages (a_list:List (Int × Str)):Option (Bool):=if (a_list.length:Int) > 256 then some false else (spec_l11Pages_l1 a_list 0).bind fun r8=>Sum.elim (fun u9=>some true) (fun u10=>some u10) r8
@[simp] def g73_O:Bool → TV × List Blk:=fun r=>((.bool r),[])
def g73_E (a:(List (Int × Str))):List TV:=[(.vs (rows a))]
theorem g73_run (a_list:List (Int × Str)) :callFn (X g73_S) g73_tf (g73_E a_list) [] = (spec_l11Pages a_list).map g73_O:=by
  rw [callFn_eq]
  simp (maxSteps:=2000000) (maxDischargeDepth:=8) -implicitDefEqProofs [g73_tf,spec_l11Pages,g73_E] <;> (try simp only [map_to_bind,some_elim,g73_O])
def g73_r:Rule:=RlO g73_E (fun a=>spec_l11Pages a) g73_O
theorem g73_ok:RuleOk Tryz.prog 55 g73_r:=ok_rlo (S:=g73_S) (tf:=g73_tf) (SysOk.on ⟨g117_ok,trivial⟩ trivial) (trE_ok (ks:=[[0,3],[31]]) Tryz.func55 (by kernel_rfl)) fun a=>g73_run a
@[simp] theorem g73_app (y0):g73_r [(.vs (rows y0))] = (spec_l11Pages y0).map g73_O :=
  RlO_app (enc:=g73_E) (by intro a b h; simp [g73_E,Prod.ext_iff] at h ⊢; simp [h]) y0
/-! spec.l10Area -/
def g85_tf:TFn:=⟨(sq [bx 1 0,mk 2 (ki 0)] [1] (.seq (.ops [fa 3 1 1,ld 4 3,bn 5 .add (ki 2) (.t 4),mo 2 5]) (.keep (kp [(2,0)] [] 0) .ret))),[.t 2]⟩
abbrev g85_S:=Sys.on [] []
def spec_l10Area (a_s:Int × Int × Int × Int):Option (Int):=some ((IntKind.i64.wrap (2 + a_s.2.1)))
@[simp] def g85_O:Int → TV × List Blk:=fun r=>((.int .i64 r),[])
def g85_E (a:(Int × Int × Int × Int)):List TV:=[(.agg [(.int .i64 a.1),(.int .i64 a.2.1),(.int .i64 a.2.2.1),(.int .i64 a.2.2.2)])]
theorem g85_run (a_s:Int × Int × Int × Int) :callFn (X g85_S) g85_tf (g85_E a_s) [] = (spec_l10Area a_s).map g85_O:=by
  rw [callFn_eq]
  simp (maxSteps:=2000000) (maxDischargeDepth:=8) -implicitDefEqProofs [g85_tf,spec_l10Area,g85_E] <;> (try simp only [map_to_bind,some_elim,g85_O])
def g85_r:Rule:=RlO g85_E (fun a=>spec_l10Area a) g85_O
theorem g85_ok:RuleOk Tryz.prog 94 g85_r:=ok_rlo (S:=g85_S) (tf:=g85_tf) (SysOk.on trivial trivial) (trE_ok (ks:=[]) Tryz.func94 (by kernel_rfl)) fun a=>g85_run a
@[simp] theorem g85_app (y0 y1 y2 y3):g85_r [(.agg [(.int .i64 y0),(.int .i64 y1),(.int .i64 y2),(.int .i64 y3)])] = (spec_l10Area ((y0,y1,y2,y3))).map g85_O :=
  RlO_app (enc:=g85_E) (by intro a b h; simp [g85_E,Prod.ext_iff] at h ⊢; simp [h]) ((y0,y1,y2,y3))
/-! spec.l11Within -/
def g61l1_cb:TC:=(.seq (sq [mo 6 5,mo 7 1,le 8 7,bn 9 .lss (.t 6) (.t 8)] [1,2,5,9] (.cond (.t 9) .skip (.keep (kp [] [] 0) (.exit 0)))) (.trim [1,2,5] (.seq (.block 1 (.seq (.draw [([],mo 12 1),([],mo 13 5),([0,1],ia 14 2 12 13),([0,1,2],fa 15 0 14),([0,1,2,3],ld 16 15),([],ln 17 4 2),([5],ca 18 94 [.t 17]),([],fa 19 0 2),([7],ld 20 19),([7,8],bn 21 .sub (.t 20) (ki 1))] [ca 22 54 [.t 16,.t 18,.t 21],nt 23 22]) (.trim [1,2,5,23] (.cond (.t 23) (.seq (.ops [mk 4 (kb false)]) (.keep (kp [(4,0)] [] 0) .ret)) .skip)))) (.trim [1,2,5] (.after (.ops [mo 10 5,bn 11 .add (.t 10) (ki 1),mo 5 11]) (kp [(1,0),(2,0),(5,0)] [(0,0)] 0))))))
def g61l1_c:TC:=.loop [1,2,5] g61l1_cb
def g61_tf:TFn:=⟨(sq [bx 2 0,mk 4 (kb false)] [1,2] (.seq (sq [mk 5 (ki 0)] [1,2,5] (.block 0 (.keep (kp [(1,0),(2,0),(5,0)] [(0,0)] 0) g61l1_c))) (.trim [] (.seq (.ops [mk 4 (kb true)]) (.keep (kp [(4,0)] [] 0) .ret))))),[.t 4]⟩
abbrev g61_S:=Sys.on [(94,g85_r),(54,g117_r)] []
@[reducible,simp] def g61l1_F:((Unit) ⊕ (Bool)) → Out:=(Sum.elim (fun t=>(.ext 0,[],[])) (fun t=>(.ret,[(4,(.bool t))],[])))
def spec_l11Within_l1_b (v1:List (Int × Str)) (v2:Int × Int × Int × Int) (v3:Int):Option ((Int) ⊕ ((Unit) ⊕ (Bool))):=if v3 < (v1.length:Int) then if 0 ≤ v3 then (v1[(v3).toNat]?).bind fun x4=>(spec_l10Area v2).bind fun r5=>(spec_l00In x4.1 r5 ((IntKind.i64.wrap (v2.1 - 1)))).bind fun r6=>if ¬(r6 = true) then some (.inr (.inr false)) else some (.inl ((IntKind.i64.wrap (v3 + 1)))) else none else some (.inr (.inl ()))
theorem g61l1_b_eq  (v1:List (Int × Str)) (v2:Int × Int × Int × Int) (v3:Int):X g61_S g61l1_cb (keepEnv [1,2,5] [(1,(.vs (rows v1))),(2,(.ptr 0 0 0)),(5,(.int .i64 v3))]) [(.live 4 [[(.int .i64 v2.1),(.int .i64 v2.2.1),(.int .i64 v2.2.2.1),(.int .i64 v2.2.2.2)]])] = (spec_l11Within_l1_b v1 v2 v3).map (Sum.elim (fun s=>(TX.nrm,[(1,(.vs (rows v1))),(2,(.ptr 0 0 0)),(5,(.int .i64 s))],[(.live 4 [[(.int .i64 v2.1),(.int .i64 v2.2.1),(.int .i64 v2.2.2.1),(.int .i64 v2.2.2.2)]])])) g61l1_F):=by
  simp (maxSteps:=2000000) (maxDischargeDepth:=8) -implicitDefEqProofs [g61l1_cb,spec_l11Within_l1_b] <;> (try simp only [map_to_bind,some_elim,g61l1_F])
def spec_l11Within_l1 (v1:List (Int × Str)) (v2:Int × Int × Int × Int) (s:Int):Option ((Unit) ⊕ (Bool)):=loopO (fun s=>spec_l11Within_l1_b v1 v2 s) s
@[simp] theorem g61l1_eq (y0 y1 y2 y3 y4 y5):X g61_S g61l1_c [(1,(.vs (rows y0))),(2,(.ptr 0 0 0)),(5,(.int .i64 y5))] [(.live 4 [[(.int .i64 y1),(.int .i64 y2),(.int .i64 y3),(.int .i64 y4)]])] = (spec_l11Within_l1 y0 ((y1,y2,y3,y4)) y5).map g61l1_F:=by
  exact loop_X _ _ _ _ (by intro r; first | (simp; done) | (rcases r with r | r <;> simp; done) | (rcases r with r | r | r <;> simp; done) | (rcases r with r | r | r | r <;> simp)) (fun s=>g61l1_b_eq  y0 ((y1,y2,y3,y4)) s) y5
def spec_l11Within (a_s:Int × Int × Int × Int) (a_list:List (Int × Str)):Option (Bool):=(spec_l11Within_l1 a_list a_s 0).bind fun r7=>Sum.elim (fun u8=>some true) (fun u9=>some u9) r7
@[simp] def g61_O:Bool → TV × List Blk:=fun r=>((.bool r),[])
def g61_E (a:(Int × Int × Int × Int) × (List (Int × Str))):List TV:=[(.agg [(.int .i64 a.1.1),(.int .i64 a.1.2.1),(.int .i64 a.1.2.2.1),(.int .i64 a.1.2.2.2)]),(.vs (rows a.2))]
theorem g61_run (a_s:Int × Int × Int × Int) (a_list:List (Int × Str)) :callFn (X g61_S) g61_tf (g61_E (a_s,a_list)) [] = (spec_l11Within a_s a_list).map g61_O:=by
  rw [callFn_eq]
  simp (maxSteps:=2000000) (maxDischargeDepth:=8) -implicitDefEqProofs [g61_tf,spec_l11Within,g61_E] <;> (try simp only [map_to_bind,some_elim,g61_O])
def g61_r:Rule:=RlO g61_E (fun a=>spec_l11Within a.1 a.2) g61_O
theorem g61_ok:RuleOk Tryz.prog 56 g61_r:=ok_rlo (S:=g61_S) (tf:=g61_tf) (SysOk.on ⟨g85_ok,g117_ok,trivial⟩ trivial) (trE_ok (ks:=[[1,2,5],[10]]) Tryz.func56 (by kernel_rfl)) fun a=>g61_run a.1 a.2
@[simp] theorem g61_app (y0 y1 y2 y3 y4):g61_r [(.agg [(.int .i64 y0),(.int .i64 y1),(.int .i64 y2),(.int .i64 y3)]),(.vs (rows y4))] = (spec_l11Within ((y0,y1,y2,y3)) y4).map g61_O :=
  RlO_app (enc:=g61_E) (by intro a b h; simp [g61_E,Prod.ext_iff] at h ⊢; simp [h]) ((y0,y1,y2,y3),y4)
/-! spec.l11Table -/
def g74_tf:TFn:=⟨(sq [mk 2 (ki 0)] [0] (.seq (.ops [mo 3 0,bn 4 .mul (ki 2) (.t 3),bn 5 .add (.t 4) (ki 64),bn 6 .sub (.t 5) (ki 1),bn 7 .quo (.t 6) (ki 64),mo 2 7]) (.keep (kp [(2,0)] [] 0) .ret))),[.t 2]⟩
abbrev g74_S:=Sys.on [] []
def spec_l11Table (a_pages:Int):Option (Int):=some ((IntKind.i64.wrap (Int.tdiv ((IntKind.i64.wrap ((IntKind.i64.wrap ((IntKind.i64.wrap (2 * a_pages)) + 64)) - 1))) 64)))
@[simp] def g74_O:Int → TV × List Blk:=fun r=>((.int .i64 r),[])
def g74_E (a:Int):List TV:=[(.int .i64 a)]
theorem g74_run (a_pages:Int) :callFn (X g74_S) g74_tf (g74_E a_pages) [] = (spec_l11Table a_pages).map g74_O:=by
  rw [callFn_eq]
  simp (maxSteps:=2000000) (maxDischargeDepth:=8) -implicitDefEqProofs [g74_tf,spec_l11Table,g74_E] <;> (try simp only [map_to_bind,some_elim,g74_O])
def g74_r:Rule:=RlO g74_E (fun a=>spec_l11Table a) g74_O
theorem g74_ok:RuleOk Tryz.prog 131 g74_r:=ok_rlo (S:=g74_S) (tf:=g74_tf) (SysOk.on trivial trivial) (trE_ok (ks:=[]) Tryz.func131 (by kernel_rfl)) fun a=>g74_run a
@[simp] theorem g74_app (y0):g74_r [(.int .i64 y0)] = (spec_l11Table y0).map g74_O :=
  RlO_app (enc:=g74_E) (by intro a b h; simp [g74_E,Prod.ext_iff] at h ⊢; simp [h]) y0
/-! spec.l11Blocks -/
def g62_tf:TFn:=⟨(sq [mk 2 (ki 0)] [0] (.seq (.ops [mo 3 0,ca 4 131 [.t 3],bn 5 .add (ki 1) (.t 4),mo 6 0,bn 7 .add (.t 5) (.t 6),mo 2 7]) (.keep (kp [(2,0)] [] 0) .ret))),[.t 2]⟩
abbrev g62_S:=Sys.on [(131,g74_r)] []
def spec_l11Blocks (a_pages:Int):Option (Int):=(spec_l11Table a_pages).bind fun r1=>some ((IntKind.i64.wrap ((IntKind.i64.wrap (1 + r1)) + a_pages)))
@[simp] def g62_O:Int → TV × List Blk:=fun r=>((.int .i64 r),[])
def g62_E (a:Int):List TV:=[(.int .i64 a)]
theorem g62_run (a_pages:Int) :callFn (X g62_S) g62_tf (g62_E a_pages) [] = (spec_l11Blocks a_pages).map g62_O:=by
  rw [callFn_eq]
  simp (maxSteps:=2000000) (maxDischargeDepth:=8) -implicitDefEqProofs [g62_tf,spec_l11Blocks,g62_E] <;> (try simp only [map_to_bind,some_elim,g62_O])
def g62_r:Rule:=RlO g62_E (fun a=>spec_l11Blocks a) g62_O
theorem g62_ok:RuleOk Tryz.prog 95 g62_r:=ok_rlo (S:=g62_S) (tf:=g62_tf) (SysOk.on ⟨g74_ok,trivial⟩ trivial) (trE_ok (ks:=[]) Tryz.func95 (by kernel_rfl)) fun a=>g62_run a
@[simp] theorem g62_app (y0):g62_r [(.int .i64 y0)] = (spec_l11Blocks y0).map g62_O :=
  RlO_app (enc:=g62_E) (by intro a b h; simp [g62_E,Prod.ext_iff] at h ⊢; simp [h]) y0
/-! spec.l12Fits -/
def g86_tf:TFn:=⟨(sq [bx 2 0,mk 4 (kb false)] [1,2] (.seq (.after (.draw [([],mo 5 1),([0],bn 6 .eql (.t 5) (ki 0)),([0,1],mo 7 6),([0,1,2],⟨(some 8),(some (7,false)),(.mv (.t 1))⟩),([0,1,2,3],⟨(some 9),(some (7,false)),(.bin .num .leq (.t 8) (ki 60))⟩),([0,1,2,3,4],⟨(some 10),(some (7,false)),(.mv (.t 9))⟩),([0,1,2,3,4,5],⟨(some 11),(some (10,true)),(.mv (.t 1))⟩),([0,1,2,3,4,5,6],⟨(some 12),(some (10,true)),(.call 95 [.t 11])⟩),([0,1,2,3,4,5],⟨(some 13),(some (10,true)),(.faddr 1 (.t 2))⟩),([0,1,2,3,4,5,8],⟨(some 14),(some (10,true)),(.load none (.t 13))⟩)] [⟨(some 15),(some (10,true)),(.bin .num .leq (.t 12) (.t 14))⟩,⟨(some 16),(some (7,false)),(.pick (.t 10) (.t 15) (kb false))⟩,pk 17 (.t 7) (kb true) (.t 16),mo 4 17]) (kp [(4,0)] [] 0)) (.keep (kp [(4,0)] [] 0) .ret))),[.t 4]⟩
abbrev g86_S:=Sys.on [(95,g62_r)] []
def spec_l12Fits (a_s:Int × Int × Int × Int) (a_pages:Int):Option (Bool):=if a_pages = 0 then some true else if a_pages ≤ 60 then (spec_l11Blocks a_pages).bind fun r1=>some ((decide (r1 ≤ a_s.2.1))) else some false
@[simp] def g86_O:Bool → TV × List Blk:=fun r=>((.bool r),[])
def g86_E (a:(Int × Int × Int × Int) × Int):List TV:=[(.agg [(.int .i64 a.1.1),(.int .i64 a.1.2.1),(.int .i64 a.1.2.2.1),(.int .i64 a.1.2.2.2)]),(.int .i64 a.2)]
theorem g86_run (a_s:Int × Int × Int × Int) (a_pages:Int) :callFn (X g86_S) g86_tf (g86_E (a_s,a_pages)) [] = (spec_l12Fits a_s a_pages).map g86_O:=by
  rw [callFn_eq]
  simp (maxSteps:=2000000) (maxDischargeDepth:=8) -implicitDefEqProofs [g86_tf,spec_l12Fits,g86_E] <;> (try simp only [map_to_bind,some_elim,g86_O])
def g86_r:Rule:=RlO g86_E (fun a=>spec_l12Fits a.1 a.2) g86_O
theorem g86_ok:RuleOk Tryz.prog 57 g86_r:=ok_rlo (S:=g86_S) (tf:=g86_tf) (SysOk.on ⟨g62_ok,trivial⟩ trivial) (trE_ok (ks:=[[10]]) Tryz.func57 (by kernel_rfl)) fun a=>g86_run a.1 a.2
@[simp] theorem g86_app (y0 y1 y2 y3 y4):g86_r [(.agg [(.int .i64 y0),(.int .i64 y1),(.int .i64 y2),(.int .i64 y3)]),(.int .i64 y4)] = (spec_l12Fits ((y0,y1,y2,y3)) y4).map g86_O :=
  RlO_app (enc:=g86_E) (by intro a b h; simp [g86_E,Prod.ext_iff] at h ⊢; simp [h]) ((y0,y1,y2,y3),y4)
/-! spec.l12Ok -/
def g119p1_c:TC:=(.seq (.seq (.draw [([],mo 46 0),([0],nk 47 46),([0,1],fa 48 8 47),([0,1,2],ld 49 48),([],fa 50 2 3),([4],ld 51 50),([0,1,2,3,4,5],ca 52 54 [.t 49,.t 51,ki 1000000000000]),([0,1,2,3,4,5,6],nt 53 52),([0,1,2,3,4,5,6,7],mo 54 53),([0,1,2,3,4,5,6,7,8],⟨(some 55),(some (54,false)),(.mv (.t 0))⟩),([0,1,2,3,4,5,6,7,8,9],⟨(some 56),(some (54,false)),(.nilchk (.t 55))⟩),([0,1,2,3,4,5,6,7,8,9,10],⟨(some 57),(some (54,false)),(.faddr 9 (.t 56))⟩),([0,1,2,3,4,5,6,7,8,9,10,11],⟨(some 58),(some (54,false)),(.load none (.t 57))⟩),([0,1,2,3,4,5,6,7,8],⟨(some 59),(some (54,false)),(.faddr 1 (.t 3))⟩),([0,1,2,3,4,5,6,7,8,13],⟨(some 60),(some (54,false)),(.load none (.t 59))⟩),([0,1,2,3,4,5,6,7,8,9,10,11,12,13,14],⟨(some 61),(some (54,false)),(.call 54 [.t 58,ki 0,.t 60])⟩),([0,1,2,3,4,5,6,7,8,9,10,11,12,13,14,15],⟨(some 62),(some (54,false)),(.un .not (.t 61))⟩),([0,1,2,3,4,5,6,7,8,9,10,11,12,13,14,15,16],pk 63 (.t 54) (kb true) (.t 62)),([0,1,2,3,4,5,6,7,8,9,10,11,12,13,14,15,16,17],mo 64 63),([0,1,2,3,4,5,6,7,8,9,10,11,12,13,14,15,16,17,18],⟨(some 65),(some (64,false)),(.mv (.t 0))⟩),([0,1,2,3,4,5,6,7,8,9,10,11,12,13,14,15,16,17,18,19],⟨(some 66),(some (64,false)),(.nilchk (.t 65))⟩),([0,1,2,3,4,5,6,7,8,9,10,11,12,13,14,15,16,17,18,19,20],⟨(some 67),(some (64,false)),(.faddr 10 (.t 66))⟩),([0,1,2,3,4,5,6,7,8,9,10,11,12,13,14,15,16,17,18,19,20,21],⟨(some 68),(some (64,false)),(.load none (.t 67))⟩),([0,1,2,3,4,5,6,7,8,9,10,11,12,13,14,15,16,17,18,19,20,21,22],⟨(some 69),(some (64,false)),(.call 55 [.t 68])⟩),([0,1,2,3,4,5,6,7,8,9,10,11,12,13,14,15,16,17,18,19,20,21,22,23],⟨(some 70),(some (64,false)),(.un .not (.t 69))⟩),([0,1,2,3,4,5,6,7,8,9,10,11,12,13,14,15,16,17,18,19,20,21,22,23,24],pk 71 (.t 64) (kb true) (.t 70)),([0,1,2,3,4,5,6,7,8,9,10,11,12,13,14,15,16,17,18,19,20,21,22,23,24,25],mo 72 71),([0,1,2,3,4,5,6,7,8,9,10,11,12,13,14,15,16,17,18,19,20,21,22,23,24,25,26],⟨(some 73),(some (72,false)),(.mv (.t 0))⟩),([0,1,2,3,4,5,6,7,8,9,10,11,12,13,14,15,16,17,18,19,20,21,22,23,24,25,26,27],⟨(some 74),(some (72,false)),(.nilchk (.t 73))⟩),([0,1,2,3,4,5,6,7,8,9,10,11,12,13,14,15,16,17,18,19,20,21,22,23,24,25,26,27,28],⟨(some 75),(some (72,false)),(.faddr 11 (.t 74))⟩),([0,1,2,3,4,5,6,7,8,9,10,11,12,13,14,15,16,17,18,19,20,21,22,23,24,25,26,27,28,29],⟨(some 76),(some (72,false)),(.load none (.t 75))⟩),([0,1,2,3,4,5,6,7,8,9,10,11,12,13,14,15,16,17,18,19,20,21,22,23,24,25,26,27,28,29,30],⟨(some 77),(some (72,false)),(.call 55 [.t 76])⟩),([0,1,2,3,4,5,6,7,8,9,10,11,12,13,14,15,16,17,18,19,20,21,22,23,24,25,26,27,28,29,30,31],⟨(some 78),(some (72,false)),(.un .not (.t 77))⟩),([0,1,2,3,4,5,6,7,8,9,10,11,12,13,14,15,16,17,18,19,20,21,22,23,24,25,26,27,28,29,30,31,32],pk 79 (.t 72) (kb true) (.t 78)),([0,1,2,3,4,5,6,7,8,9,10,11,12,13,14,15,16,17,18,19,20,21,22,23,24,25,26,27,28,29,30,31,32,33],mo 80 79),([0,1,2,3,4,5,6,7,8,9,10,11,12,13,14,15,16,17,18,19,20,21,22,23,24,25,26,27,28,29,30,31,32,33,34],⟨(some 81),(some (80,false)),(.load (some 4) (.t 3))⟩),([0,1,2,3,4,5,6,7,8,9,10,11,12,13,14,15,16,17,18,19,20,21,22,23,24,25,26,27,28,29,30,31,32,33,34],⟨(some 82),(some (80,false)),(.mv (.t 0))⟩),([0,1,2,3,4,5,6,7,8,9,10,11,12,13,14,15,16,17,18,19,20,21,22,23,24,25,26,27,28,29,30,31,32,33,34,36],⟨(some 83),(some (80,false)),(.nilchk (.t 82))⟩),([0,1,2,3,4,5,6,7,8,9,10,11,12,13,14,15,16,17,18,19,20,21,22,23,24,25,26,27,28,29,30,31,32,33,34,36,37],⟨(some 84),(some (80,false)),(.faddr 10 (.t 83))⟩),([0,1,2,3,4,5,6,7,8,9,10,11,12,13,14,15,16,17,18,19,20,21,22,23,24,25,26,27,28,29,30,31,32,33,34,36,37,38],⟨(some 85),(some (80,false)),(.load none (.t 84))⟩),([0,1,2,3,4,5,6,7,8,9,10,11,12,13,14,15,16,17,18,19,20,21,22,23,24,25,26,27,28,29,30,31,32,33,34,35,36,37,38,39],⟨(some 86),(some (80,false)),(.call 56 [.t 81,.t 85])⟩),([0,1,2,3,4,5,6,7,8,9,10,11,12,13,14,15,16,17,18,19,20,21,22,23,24,25,26,27,28,29,30,31,32,33,34,35,36,37,38,39,40],⟨(some 87),(some (80,false)),(.un .not (.t 86))⟩),([0,1,2,3,4,5,6,7,8,9,10,11,12,13,14,15,16,17,18,19,20,21,22,23,24,25,26,27,28,29,30,31,32,33,34,35,36,37,38,39,40,41],pk 88 (.t 80) (kb true) (.t 87)),([0,1,2,3,4,5,6,7,8,9,10,11,12,13,14,15,16,17,18,19,20,21,22,23,24,25,26,27,28,29,30,31,32,33,34,35,36,37,38,39,40,41,42],mo 89 88),([0,1,2,3,4,5,6,7,8,9,10,11,12,13,14,15,16,17,18,19,20,21,22,23,24,25,26,27,28,29,30,31,32,33,34,35,36,37,38,39,40,41,42,43],⟨(some 90),(some (89,false)),(.load (some 4) (.t 3))⟩),([0,1,2,3,4,5,6,7,8,9,10,11,12,13,14,15,16,17,18,19,20,21,22,23,24,25,26,27,28,29,30,31,32,33,34,35,36,37,38,39,40,41,42,43],⟨(some 91),(some (89,false)),(.mv (.t 0))⟩),([0,1,2,3,4,5,6,7,8,9,10,11,12,13,14,15,16,17,18,19,20,21,22,23,24,25,26,27,28,29,30,31,32,33,34,35,36,37,38,39,40,41,42,43,45],⟨(some 92),(some (89,false)),(.nilchk (.t 91))⟩),([0,1,2,3,4,5,6,7,8,9,10,11,12,13,14,15,16,17,18,19,20,21,22,23,24,25,26,27,28,29,30,31,32,33,34,35,36,37,38,39,40,41,42,43,45,46],⟨(some 93),(some (89,false)),(.faddr 11 (.t 92))⟩),([0,1,2,3,4,5,6,7,8,9,10,11,12,13,14,15,16,17,18,19,20,21,22,23,24,25,26,27,28,29,30,31,32,33,34,35,36,37,38,39,40,41,42,43,45,46,47],⟨(some 94),(some (89,false)),(.load none (.t 93))⟩)] [⟨(some 95),(some (89,false)),(.call 56 [.t 90,.t 94])⟩,⟨(some 96),(some (89,false)),(.un .not (.t 95))⟩,pk 97 (.t 89) (kb true) (.t 96)]) (.trim [0,3,97] (.cond (.t 97) (.seq (.ops [mk 2 (kb false)]) (.keep (kp [(2,0)] [] 0) .ret)) .skip))) (.trim [0,3] (.seq (.draw [([],ln 98 4 3),([],mo 99 0),([1],nk 100 99),([1,2],fa 101 11 100),([1,2,3],ld 102 101),([1,2,3,4],le 103 102)] [ca 104 57 [.t 98,.t 103],mo 2 104]) (.keep (kp [(2,0)] [] 0) .ret))))
def g119_tf:TFn:=⟨(sq [mk 2 (kb false)] [0] (sq [mo 4 0,nk 5 4,fa 6 4 5,ln 7 4 6,oo 3 (.alloc [(.int .i64 0),(.int .i64 0),(.int .i64 0),(.int .i64 0)]),⟨none,none,(.store 4 (.t 3) (.t 7))⟩] [0,3] (.seq (.seq (.draw [([],mo 8 0),([0],nk 9 8),([0,1],fa 10 0 9),([0,1,2],ca 11 52 [.t 10]),([0,1,2,3],nt 12 11),([0,1,2,3,4],mo 13 12),([0,1,2,3,4,5],⟨(some 14),(some (13,false)),(.mv (.t 0))⟩),([0,1,2,3,4,5,6],⟨(some 15),(some (13,false)),(.nilchk (.t 14))⟩),([0,1,2,3,4,5,6,7],⟨(some 16),(some (13,false)),(.faddr 0 (.t 15))⟩),([0,1,2,3,4,5,6,7,8],⟨(some 17),(some (13,false)),(.faddr 1 (.t 16))⟩),([0,1,2,3,4,5,6,7,8,9],⟨(some 18),(some (13,false)),(.load none (.t 17))⟩),([0,1,2,3,4,5,6,7,8,9,10],⟨(some 19),(some (13,false)),(.len false (.t 18))⟩),([0,1,2,3,4,5,6,7,8,9,10,11],⟨(some 20),(some (13,false)),(.bin .num .gtr (.t 19) (ki 1))⟩),([0,1,2,3,4,5,6,7,8,9,10,11,12],⟨(some 21),(some (13,false)),(.mv (.t 20))⟩),([0,1,2,3,4,5,6,7,8,9,10,11,12,13],⟨(some 22),(some (21,true)),(.mv (.t 0))⟩),([0,1,2,3,4,5,6,7,8,9,10,11,12,13,14],⟨(some 23),(some (21,true)),(.nilchk (.t 22))⟩),([0,1,2,3,4,5,6,7,8,9,10,11,12,13,14,15],⟨(some 24),(some (21,true)),(.faddr 0 (.t 23))⟩),([0,1,2,3,4,5,6,7,8,9,10,11,12,13,14,15,16],⟨(some 25),(some (21,true)),(.faddr 3 (.t 24))⟩),([0,1,2,3,4,5,6,7,8,9,10,11,12,13,14,15,16,17],⟨(some 26),(some (21,true)),(.load none (.t 25))⟩),([0,1,2,3,4,5,6,7,8,9,10,11,12,13,14,15,16,17,18],⟨(some 27),(some (21,true)),(.un .not (.t 26))⟩),([0,1,2,3,4,5,6,7,8,9,10,11,12,13,14,15,16,17,18,19],⟨(some 28),(some (13,false)),(.pick (.t 21) (.t 27) (kb false))⟩),([0,1,2,3,4,5,6,7,8,9,10,11,12,13,14,15,16,17,18,19,20],pk 29 (.t 13) (kb true) (.t 28)),([0,1,2,3,4,5,6,7,8,9,10,11,12,13,14,15,16,17,18,19,20,21],mo 30 29),([0,1,2,3,4,5,6,7,8,9,10,11,12,13,14,15,16,17,18,19,20,21,22],⟨(some 31),(some (30,false)),(.load (some 4) (.t 3))⟩),([0,1,2,3,4,5,6,7,8,9,10,11,12,13,14,15,16,17,18,19,20,21,22,23],⟨(some 32),(some (30,false)),(.call 53 [.t 31])⟩),([0,1,2,3,4,5,6,7,8,9,10,11,12,13,14,15,16,17,18,19,20,21,22,23,24],⟨(some 33),(some (30,false)),(.un .not (.t 32))⟩),([0,1,2,3,4,5,6,7,8,9,10,11,12,13,14,15,16,17,18,19,20,21,22,23,24,25],pk 34 (.t 30) (kb true) (.t 33)),([0,1,2,3,4,5,6,7,8,9,10,11,12,13,14,15,16,17,18,19,20,21,22,23,24,25,26],mo 35 34),([0,1,2,3,4,5,6,7,8,9,10,11,12,13,14,15,16,17,18,19,20,21,22,23,24,25,26,27],⟨(some 36),(some (35,false)),(.faddr 0 (.t 3))⟩),([0,1,2,3,4,5,6,7,8,9,10,11,12,13,14,15,16,17,18,19,20,21,22,23,24,25,26,27,28],⟨(some 37),(some (35,false)),(.load none (.t 36))⟩),([0,1,2,3,4,5,6,7,8,9,10,11,12,13,14,15,16,17,18,19,20,21,22,23,24,25,26,27],⟨(some 38),(some (35,false)),(.mv (.t 0))⟩),([0,1,2,3,4,5,6,7,8,9,10,11,12,13,14,15,16,17,18,19,20,21,22,23,24,25,26,27,30],⟨(some 39),(some (35,false)),(.nilchk (.t 38))⟩),([0,1,2,3,4,5,6,7,8,9,10,11,12,13,14,15,16,17,18,19,20,21,22,23,24,25,26,27,30,31],⟨(some 40),(some (35,false)),(.faddr 0 (.t 39))⟩),([0,1,2,3,4,5,6,7,8,9,10,11,12,13,14,15,16,17,18,19,20,21,22,23,24,25,26,27,30,31,32],⟨(some 41),(some (35,false)),(.faddr 0 (.t 40))⟩),([0,1,2,3,4,5,6,7,8,9,10,11,12,13,14,15,16,17,18,19,20,21,22,23,24,25,26,27,30,31,32,33],⟨(some 42),(some (35,false)),(.load none (.t 41))⟩),([0,1,2,3,4,5,6,7,8,9,10,11,12,13,14,15,16,17,18,19,20,21,22,23,24,25,26,27,30,31,32,33,34],⟨(some 43),(some (35,false)),(.len false (.t 42))⟩)] [⟨(some 44),(some (35,false)),(.bin .num .neq (.t 37) (.t 43))⟩,pk 45 (.t 35) (kb true) (.t 44)]) (.trim [0,3,45] (.cond (.t 45) (.seq (.ops [mk 2 (kb false)]) (.keep (kp [(2,0)] [] 0) .ret)) (.keep (kp [(0,0),(3,0)] [(0,0)] 0) .skip)))) (.trim [0,3] g119p1_c)))),[.t 2]⟩
abbrev g119_S:=Sys.on [(52,g118_r),(53,g46_r),(54,g117_r),(55,g73_r),(56,g61_r),(57,g86_r)] []
@[reducible,simp] def g119p1_F:Bool → Out:=(fun t=>(.ret,[(2,(.bool t))],[]))
def spec_l12Ok_p1 (v4:List Str) (v5:List (Int × Str)) (v6:Int) (v7:Bool) (v8:Int) (v9:Int) (v10:Int) (v11:Int) (v12:Int) (v13:Int) (v14:List (Int × Str)) (v15:List (Int × Str)) (v16:Int × Int × Int × Int):Option (Bool):=(spec_l00In v12 v16.2.2.1 1000000000000).bind fun r17=>if ¬(r17 = true) then some false else (spec_l00In v13 0 v16.2.1).bind fun r18=>if ¬(r18 = true) then some false else (spec_l11Pages v14).bind fun r19=>if ¬(r19 = true) then some false else (spec_l11Pages v15).bind fun r20=>if ¬(r20 = true) then some false else (spec_l11Within v16 v14).bind fun r21=>if ¬(r21 = true) then some false else (spec_l11Within v16 v15).bind fun r22=>if ¬(r22 = true) then some false else (spec_l12Fits v16 ((v15.length:Int))).bind fun r23=>some r23
@[simp] theorem g119p1_eq (q0:List TV)(y0 y1 y2 y3 y4 y5 y6 y7 y8 y9 y10 y11 y12 y13 y14 y15):X g119_S g119p1_c [(0,(.vp ((.vs (rows y0))::(.vs (rows y1))::(.int .i64 y2)::(.bool y3)::(.int .i64 y4)::(.int .i64 y5)::(.int .i64 y6)::(.int .i64 y7)::(.int .i64 y8)::(.int .i64 y9)::(.vs (rows y10))::(.vs (rows y11))::q0))),(3,(.ptr 0 0 0))] [(.live 4 [[(.int .i64 y12),(.int .i64 y13),(.int .i64 y14),(.int .i64 y15)]])] = (spec_l12Ok_p1 y0 y1 y2 y3 y4 y5 y6 y7 y8 y9 y10 y11 ((y12,y13,y14,y15))).map g119p1_F:=by
  simp (maxSteps:=2000000) (maxDischargeDepth:=8) -implicitDefEqProofs [g119p1_c,spec_l12Ok_p1] <;> (try simp only [map_to_bind,some_elim,g119p1_F])
def spec_l12Ok (a_p:K1):Option (Bool):=(spec_l09Ok a_p.1).bind fun r1=>if ¬(r1 = true) then some false else if (a_p.1.2.1.length:Int) > 1 then if ¬(a_p.1.2.2.2 = true) then some false else (spec_ValidSuper a_p.2.1).bind fun r2=>if ¬(r2 = true) then some false else if ¬(a_p.2.1.1 = (a_p.1.1.length:Int)) then some false else (spec_l12Ok_p1 a_p.1.1 a_p.1.2.1 a_p.1.2.2.1 a_p.1.2.2.2 a_p.2.1.1 a_p.2.1.2.1 a_p.2.1.2.2.1 a_p.2.1.2.2.2 a_p.2.2.1 a_p.2.2.2.1 a_p.2.2.2.2.1 a_p.2.2.2.2.2 a_p.2.1).bind fun r24=>some r24 else (spec_ValidSuper a_p.2.1).bind fun r3=>if ¬(r3 = true) then some false else if ¬(a_p.2.1.1 = (a_p.1.1.length:Int)) then some false else (spec_l12Ok_p1 a_p.1.1 a_p.1.2.1 a_p.1.2.2.1 a_p.1.2.2.2 a_p.2.1.1 a_p.2.1.2.1 a_p.2.1.2.2.1 a_p.2.1.2.2.2 a_p.2.2.1 a_p.2.2.2.1 a_p.2.2.2.2.1 a_p.2.2.2.2.2 a_p.2.1).bind fun r25=>some r25
@[simp] def g119_O:Bool → TV × List Blk:=fun r=>((.bool r),[])
def g119_E (a:K1 × List TV):List TV:=[(.vp ((.vs (rows a.1.1.1))::(.vs (rows a.1.1.2.1))::(.int .i64 a.1.1.2.2.1)::(.bool a.1.1.2.2.2)::(.int .i64 a.1.2.1.1)::(.int .i64 a.1.2.1.2.1)::(.int .i64 a.1.2.1.2.2.1)::(.int .i64 a.1.2.1.2.2.2)::(.int .i64 a.1.2.2.1)::(.int .i64 a.1.2.2.2.1)::(.vs (rows a.1.2.2.2.2.1))::(.vs (rows a.1.2.2.2.2.2))::a.2))]
theorem g119_run (a_p:K1) (q0:List TV):callFn (X g119_S) g119_tf (g119_E (a_p,q0)) [] = (spec_l12Ok a_p).map g119_O:=by
  rw [callFn_eq]
  simp (maxSteps:=2000000) (maxDischargeDepth:=8) -implicitDefEqProofs [g119_tf,spec_l12Ok,g119_E] <;> (try simp only [map_to_bind,some_elim,g119_O])
def g119_r:Rule:=RlO g119_E (fun a=>spec_l12Ok a.1) g119_O
theorem g119_ok:RuleOk Tryz.prog 25 g119_r:=ok_rlo (S:=g119_S) (tf:=g119_tf) (SysOk.on ⟨g118_ok,g46_ok,g117_ok,g73_ok,g61_ok,g86_ok,trivial⟩ trivial) (trE_ok (ks:=[[36],[49],[6]]) Tryz.func25 (by kernel_rfl)) fun a=>g119_run a.1 a.2
@[simp] theorem g119_app (y0 y1 y2 y3 y4 y5 y6 y7 y8 y9 y10 y11)(q0:List TV):g119_r [(.vp ((.vs (rows y0))::(.vs (rows y1))::(.int .i64 y2)::(.bool y3)::(.int .i64 y4)::(.int .i64 y5)::(.int .i64 y6)::(.int .i64 y7)::(.int .i64 y8)::(.int .i64 y9)::(.vs (rows y10))::(.vs (rows y11))::q0))] = (spec_l12Ok (((y0,y1,y2,y3),(y4,y5,y6,y7),y8,y9,y10,y11))).map g119_O :=
  RlO_app (enc:=g119_E) (by intro a b h; simp [g119_E,Prod.ext_iff] at h ⊢; simp [h]) (((y0,y1,y2,y3),(y4,y5,y6,y7),y8,y9,y10,y11),q0)
/-! spec.l13First -/
def g75_tf:TFn:=⟨(sq [mk 2 (ki 0)] [0] (.seq (.ops [mo 3 0,nk 4 3,fa 5 4 4,ln 6 4 5,ca 7 94 [.t 6],bn 8 .add (.t 7) (ki 1),mo 2 8]) (.keep (kp [(2,0)] [] 0) .ret))),[.t 2]⟩
abbrev g75_S:=Sys.on [(94,g85_r)] []
def spec_l13First (a_p:K1):Option (Int):=(spec_l10Area a_p.2.1).bind fun r1=>some ((IntKind.i64.wrap (r1 + 1)))
@[simp] def g75_O:Int → TV × List Blk:=fun r=>((.int .i64 r),[])
def g75_E (a:K1 × List TV):List TV:=[(.vp ((.vs (rows a.1.1.1))::(.vs (rows a.1.1.2.1))::(.int .i64 a.1.1.2.2.1)::(.bool a.1.1.2.2.2)::(.int .i64 a.1.2.1.1)::(.int .i64 a.1.2.1.2.1)::(.int .i64 a.1.2.1.2.2.1)::(.int .i64 a.1.2.1.2.2.2)::(.int .i64 a.1.2.2.1)::(.int .i64 a.1.2.2.2.1)::(.vs (rows a.1.2.2.2.2.1))::(.vs (rows a.1.2.2.2.2.2))::a.2))]
theorem g75_run (a_p:K1) (q0:List TV):callFn (X g75_S) g75_tf (g75_E (a_p,q0)) [] = (spec_l13First a_p).map g75_O:=by
  rw [callFn_eq]
  simp (maxSteps:=2000000) (maxDischargeDepth:=8) -implicitDefEqProofs [g75_tf,spec_l13First,g75_E] <;> (try simp only [map_to_bind,some_elim,g75_O])
def g75_r:Rule:=RlO g75_E (fun a=>spec_l13First a.1) g75_O
theorem g75_ok:RuleOk Tryz.prog 132 g75_r:=ok_rlo (S:=g75_S) (tf:=g75_tf) (SysOk.on ⟨g85_ok,trivial⟩ trivial) (trE_ok (ks:=[]) Tryz.func132 (by kernel_rfl)) fun a=>g75_run a.1 a.2
@[simp] theorem g75_app (y0 y1 y2 y3 y4 y5 y6 y7 y8 y9 y10 y11)(q0:List TV):g75_r [(.vp ((.vs (rows y0))::(.vs (rows y1))::(.int .i64 y2)::(.bool y3)::(.int .i64 y4)::(.int .i64 y5)::(.int .i64 y6)::(.int .i64 y7)::(.int .i64 y8)::(.int .i64 y9)::(.vs (rows y10))::(.vs (rows y11))::q0))] = (spec_l13First (((y0,y1,y2,y3),(y4,y5,y6,y7),y8,y9,y10,y11))).map g75_O :=
  RlO_app (enc:=g75_E) (by intro a b h; simp [g75_E,Prod.ext_iff] at h ⊢; simp [h]) (((y0,y1,y2,y3),(y4,y5,y6,y7),y8,y9,y10,y11),q0)
/-! spec.l13Data -/
def g87_tf:TFn:=⟨(sq [mk 6 (kb false)] [0,1,2] (.seq (.after (.draw [([],mo 7 2),([0],ca 8 54 [.t 7,ki 1,ki 256]),([0,1],mo 9 8),([0,1,2],⟨(some 10),(some (9,true)),(.mv (.t 1))⟩),([0,1,2],⟨(some 11),(some (9,true)),(.mv (.t 0))⟩),([0,1,2,4],⟨(some 12),(some (9,true)),(.call 132 [.t 11])⟩),([0,1,2],⟨(some 13),(some (9,true)),(.mv (.t 0))⟩),([0,1,2,6],⟨(some 14),(some (9,true)),(.nilchk (.t 13))⟩),([0,1,2,6,7],⟨(some 15),(some (9,true)),(.faddr 4 (.t 14))⟩),([0,1,2,6,7,8],⟨(some 16),(some (9,true)),(.faddr 0 (.t 15))⟩),([0,1,2,6,7,8,9],⟨(some 17),(some (9,true)),(.load none (.t 16))⟩),([0,1,2,6,7,8,9,10],⟨(some 18),(some (9,true)),(.bin .num .sub (.t 17) (ki 1))⟩),([0,1,2,3,4,5,6,7,8,9,10,11],⟨(some 19),(some (9,true)),(.call 54 [.t 10,.t 12,.t 18])⟩),([0,1,2,3,4,5,6,7,8,9,10,11,12],pk 20 (.t 9) (.t 19) (kb false)),([0,1,2,3,4,5,6,7,8,9,10,11,12,13],mo 21 20),([0,1,2,3,4,5,6,7,8,9,10,11,12,13,14],⟨(some 22),(some (21,true)),(.mv (.t 1))⟩),([0,1,2,3,4,5,6,7,8,9,10,11,12,13,14],⟨(some 23),(some (21,true)),(.mv (.t 2))⟩),([0,1,2,3,4,5,6,7,8,9,10,11,12,13,14,15,16],⟨(some 24),(some (21,true)),(.bin .num .add (.t 22) (.t 23))⟩),([0,1,2,3,4,5,6,7,8,9,10,11,12,13,14],⟨(some 25),(some (21,true)),(.mv (.t 0))⟩),([0,1,2,3,4,5,6,7,8,9,10,11,12,13,14,18],⟨(some 26),(some (21,true)),(.nilchk (.t 25))⟩),([0,1,2,3,4,5,6,7,8,9,10,11,12,13,14,18,19],⟨(some 27),(some (21,true)),(.faddr 4 (.t 26))⟩),([0,1,2,3,4,5,6,7,8,9,10,11,12,13,14,18,19,20],⟨(some 28),(some (21,true)),(.faddr 0 (.t 27))⟩),([0,1,2,3,4,5,6,7,8,9,10,11,12,13,14,18,19,20,21],⟨(some 29),(some (21,true)),(.load none (.t 28))⟩)] [⟨(some 30),(some (21,true)),(.bin .num .leq (.t 24) (.t 29))⟩,pk 31 (.t 21) (.t 30) (kb false),mo 6 31]) (kp [(6,0)] [] 0)) (.keep (kp [(6,0)] [] 0) .ret))),[.t 6]⟩
abbrev g87_S:=Sys.on [(54,g117_r),(132,g75_r)] []
def spec_l13Data (a_p:K1) (a_at:Int) (a_n:Int):Option (Bool):=(spec_l00In a_n 1 256).bind fun r1=>if r1 = true then (spec_l13First a_p).bind fun r2=>(spec_l00In a_at r2 ((IntKind.i64.wrap (a_p.2.1.1 - 1)))).bind fun r3=>if r3 = true then some ((decide ((IntKind.i64.wrap (a_at + a_n)) ≤ a_p.2.1.1))) else some false else some false
@[simp] def g87_O:Bool → TV × List Blk:=fun r=>((.bool r),[])
def g87_E (a:K1 × Int × Int × List TV):List TV:=[(.vp ((.vs (rows a.1.1.1))::(.vs (rows a.1.1.2.1))::(.int .i64 a.1.1.2.2.1)::(.bool a.1.1.2.2.2)::(.int .i64 a.1.2.1.1)::(.int .i64 a.1.2.1.2.1)::(.int .i64 a.1.2.1.2.2.1)::(.int .i64 a.1.2.1.2.2.2)::(.int .i64 a.1.2.2.1)::(.int .i64 a.1.2.2.2.1)::(.vs (rows a.1.2.2.2.2.1))::(.vs (rows a.1.2.2.2.2.2))::a.2.2.2)),(.int .i64 a.2.1),(.int .i64 a.2.2.1)]
theorem g87_run (a_p:K1) (a_at:Int) (a_n:Int) (q0:List TV):callFn (X g87_S) g87_tf (g87_E (a_p,a_at,a_n,q0)) [] = (spec_l13Data a_p a_at a_n).map g87_O:=by
  rw [callFn_eq]
  simp (maxSteps:=2000000) (maxDischargeDepth:=8) -implicitDefEqProofs [g87_tf,spec_l13Data,g87_E] <;> (try simp only [map_to_bind,some_elim,g87_O])
def g87_r:Rule:=RlO g87_E (fun a=>spec_l13Data a.1 a.2.1 a.2.2.1) g87_O
theorem g87_ok:RuleOk Tryz.prog 96 g87_r:=ok_rlo (S:=g87_S) (tf:=g87_tf) (SysOk.on ⟨g117_ok,g75_ok,trivial⟩ trivial) (trE_ok (ks:=[[23]]) Tryz.func96 (by kernel_rfl)) fun a=>g87_run a.1 a.2.1 a.2.2.1 a.2.2.2
@[simp] theorem g87_app (y0 y1 y2 y3 y4 y5 y6 y7 y8 y9 y10 y11 y12 y13)(q0:List TV):g87_r [(.vp ((.vs (rows y0))::(.vs (rows y1))::(.int .i64 y2)::(.bool y3)::(.int .i64 y4)::(.int .i64 y5)::(.int .i64 y6)::(.int .i64 y7)::(.int .i64 y8)::(.int .i64 y9)::(.vs (rows y10))::(.vs (rows y11))::q0)),(.int .i64 y12),(.int .i64 y13)] = (spec_l13Data (((y0,y1,y2,y3),(y4,y5,y6,y7),y8,y9,y10,y11)) y12 y13).map g87_O :=
  RlO_app (enc:=g87_E) (by intro a b h; simp [g87_E,Prod.ext_iff] at h ⊢; simp [h]) (((y0,y1,y2,y3),(y4,y5,y6,y7),y8,y9,y10,y11),y12,y13,q0)
/-! spec.l11Find -/
def g88l1_cb:TC:=(.seq (sq [mo 6 5,mo 7 0,le 8 7,bn 9 .lss (.t 6) (.t 8)] [0,1,5,9] (.cond (.t 9) .skip (.keep (kp [] [] 0) (.exit 0)))) (.trim [0,1,5] (.seq (.block 1 (sq [mo 12 0,mo 13 5,ia 14 2 12 13,fa 15 0 14,ld 16 15,mo 17 1,bn 18 .eql (.t 16) (.t 17)] [0,1,5,18] (.cond (.t 18) (.seq (.ops [mo 19 5,mo 4 19]) (.keep (kp [(4,0)] [] 0) .ret)) .skip))) (.trim [0,1,5] (.after (.ops [mo 10 5,bn 11 .add (.t 10) (ki 1),mo 5 11]) (kp [(0,0),(1,0),(5,0)] [] 0))))))
def g88l1_c:TC:=.loop [0,1,5] g88l1_cb
def g88_tf:TFn:=⟨(sq [mk 4 (ki 0)] [0,1] (.seq (sq [mk 5 (ki 0)] [0,1,5] (.block 0 (.keep (kp [(0,0),(1,0),(5,0)] [] 0) g88l1_c))) (.trim [] (.seq (.ops [mk 4 (ki (-1))]) (.keep (kp [(4,0)] [] 0) .ret))))),[.t 4]⟩
abbrev g88_S:=Sys.on [] []
@[reducible,simp] def g88l1_F:((Unit) ⊕ (Int)) → Out:=(Sum.elim (fun t=>(.ext 0,[],[])) (fun t=>(.ret,[(4,(.int .i64 t))],[])))
def spec_l11Find_l1_b (v1:List (Int × Str)) (v2:Int) (v3:Int):Option ((Int) ⊕ ((Unit) ⊕ (Int))):=if v3 < (v1.length:Int) then if 0 ≤ v3 then (v1[(v3).toNat]?).bind fun x4=>if x4.1 = v2 then some (.inr (.inr v3)) else some (.inl ((IntKind.i64.wrap (v3 + 1)))) else none else some (.inr (.inl ()))
theorem g88l1_b_eq  (v1:List (Int × Str)) (v2:Int) (v3:Int):X g88_S g88l1_cb (keepEnv [0,1,5] [(0,(.vs (rows v1))),(1,(.int .i64 v2)),(5,(.int .i64 v3))]) [] = (spec_l11Find_l1_b v1 v2 v3).map (Sum.elim (fun s=>(TX.nrm,[(0,(.vs (rows v1))),(1,(.int .i64 v2)),(5,(.int .i64 s))],[])) g88l1_F):=by
  simp (maxSteps:=2000000) (maxDischargeDepth:=8) -implicitDefEqProofs [g88l1_cb,spec_l11Find_l1_b] <;> (try simp only [map_to_bind,some_elim,g88l1_F])
def spec_l11Find_l1 (v1:List (Int × Str)) (v2:Int) (s:Int):Option ((Unit) ⊕ (Int)):=loopO (fun s=>spec_l11Find_l1_b v1 v2 s) s
@[simp] theorem g88l1_eq (y0 y1 y2):X g88_S g88l1_c [(0,(.vs (rows y0))),(1,(.int .i64 y1)),(5,(.int .i64 y2))] [] = (spec_l11Find_l1 y0 y1 y2).map g88l1_F:=by
  exact loop_X _ _ _ _ (by intro r; first | (simp; done) | (rcases r with r | r <;> simp; done) | (rcases r with r | r | r <;> simp; done) | (rcases r with r | r | r | r <;> simp)) (fun s=>g88l1_b_eq  y0 y1 s) y2
def spec_l11Find (a_list:List (Int × Str)) (a_block:Int):Option (Int):=(spec_l11Find_l1 a_list a_block 0).bind fun r5=>Sum.elim (fun u6=>some ((-1))) (fun u7=>some u7) r5
@[simp] def g88_O:Int → TV × List Blk:=fun r=>((.int .i64 r),[])
def g88_E (a:(List (Int × Str)) × Int):List TV:=[(.vs (rows a.1)),(.int .i64 a.2)]
theorem g88_run (a_list:List (Int × Str)) (a_block:Int) :callFn (X g88_S) g88_tf (g88_E (a_list,a_block)) [] = (spec_l11Find a_list a_block).map g88_O:=by
  rw [callFn_eq]
  simp (maxSteps:=2000000) (maxDischargeDepth:=8) -implicitDefEqProofs [g88_tf,spec_l11Find,g88_E] <;> (try simp only [map_to_bind,some_elim,g88_O])
def g88_r:Rule:=RlO g88_E (fun a=>spec_l11Find a.1 a.2) g88_O
theorem g88_ok:RuleOk Tryz.prog 99 g88_r:=ok_rlo (S:=g88_S) (tf:=g88_tf) (SysOk.on trivial trivial) (trE_ok (ks:=[[0,1,5]]) Tryz.func99 (by kernel_rfl)) fun a=>g88_run a.1 a.2
@[simp] theorem g88_app (y0 y1):g88_r [(.vs (rows y0)),(.int .i64 y1)] = (spec_l11Find y0 y1).map g88_O :=
  RlO_app (enc:=g88_E) (by intro a b h; simp [g88_E,Prod.ext_iff] at h ⊢; simp [h]) (y0,y1)
/-! spec.l09Read -/
def g89l1_cb:TC:=(.seq (sq [mo 12 5,bn 13 .geq (.t 12) (ki 0)] [0,1,5,13] (.cond (.t 13) .skip (.keep (kp [(0,0),(1,0)] [] 0) (.exit 0)))) (.trim [0,1,5] (.seq (.block 1 (sq [mo 16 0,nk 17 16,fa 18 1 17,ld 19 18,mo 20 5,ia 21 2 19 20,fa 22 0 21,ld 23 22,mo 24 1,bn 25 .eql (.t 23) (.t 24)] [0,1,5,25] (.cond (.t 25) (.seq (.ops [mo 26 0,nk 27 26,fa 28 1 27,ld 29 28,mo 30 5,ia 31 2 29 30,fa 32 1 31,ld 33 32,mo 4 33]) (.keep (kp [(4,0)] [] 0) .ret)) .skip))) (.trim [0,1,5] (.after (.ops [mo 14 5,bn 15 .sub (.t 14) (ki 1),mo 5 15]) (kp [(0,0),(1,0),(5,0)] [] 0))))))
def g89l1_c:TC:=.loop [0,1,5] g89l1_cb
def g89_tf:TFn:=⟨(sq [mk 4 (.c (.str []))] [0,1] (.seq (sq [mo 6 0,nk 7 6,fa 8 1 7,ld 9 8,le 10 9,bn 11 .sub (.t 10) (ki 1),mo 5 11] [0,1,5] (.block 0 (.keep (kp [(0,0),(1,0),(5,0)] [] 0) g89l1_c))) (.trim [0,1] (.seq (.ops [mo 34 0,nk 35 34,fa 36 0 35,ld 37 36,mo 38 1,ia 39 1 37 38,ld 40 39,mo 4 40]) (.keep (kp [(4,0)] [] 0) .ret))))),[.t 4]⟩
abbrev g89_S:=Sys.on [] []
def spec_l09Read_l1_b (v1:List Str) (v2:List (Int × Str)) (v3:Int) (v4:Bool) (v5:Int) (v6:Int):Option ((Int) ⊕ ((List Str × (List (Int × Str)) × Int × Bool × Int) ⊕ (Str))):=if v6 ≥ 0 then if 0 ≤ v6 then (v2[(v6).toNat]?).bind fun x7=>if x7.1 = v5 then if 0 ≤ v6 then (v2[(v6).toNat]?).bind fun x8=>some (.inr (.inr x8.2)) else none else some (.inl ((IntKind.i64.wrap (v6 - 1)))) else none else some (.inr (.inl (v1,v2,v3,v4,v5)))
theorem g89l1_b_eq (q0:List TV) (v1:List Str) (v2:List (Int × Str)) (v3:Int) (v4:Bool) (v5:Int) (v6:Int):X g89_S g89l1_cb (keepEnv [0,1,5] [(0,(.vp ((.vs (rows v1))::(.vs (rows v2))::(.int .i64 v3)::(.bool v4)::q0))),(1,(.int .i64 v5)),(5,(.int .i64 v6))]) [] = (spec_l09Read_l1_b v1 v2 v3 v4 v5 v6).map (Sum.elim (fun s=>(TX.nrm,[(0,(.vp ((.vs (rows v1))::(.vs (rows v2))::(.int .i64 v3)::(.bool v4)::q0))),(1,(.int .i64 v5)),(5,(.int .i64 s))],[])) (Sum.elim (fun t=>(.ext 0,[(0,(.vp ((.vs (rows t.1))::(.vs (rows t.2.1))::(.int .i64 t.2.2.1)::(.bool t.2.2.2.1)::q0))),(1,(.int .i64 t.2.2.2.2))],[])) (fun t=>(.ret,[(4,(.str t))],[])))):=by
  simp (maxSteps:=2000000) (maxDischargeDepth:=8) -implicitDefEqProofs [g89l1_cb,spec_l09Read_l1_b] <;> (try simp only [map_to_bind,some_elim])
def spec_l09Read_l1 (v1:List Str) (v2:List (Int × Str)) (v3:Int) (v4:Bool) (v5:Int) (s:Int):Option ((List Str × (List (Int × Str)) × Int × Bool × Int) ⊕ (Str)):=loopO (fun s=>spec_l09Read_l1_b v1 v2 v3 v4 v5 s) s
@[simp] theorem g89l1_eq (q0:List TV)(y0 y1 y2 y3 y4 y5):X g89_S g89l1_c [(0,(.vp ((.vs (rows y0))::(.vs (rows y1))::(.int .i64 y2)::(.bool y3)::q0))),(1,(.int .i64 y4)),(5,(.int .i64 y5))] [] = (spec_l09Read_l1 y0 y1 y2 y3 y4 y5).map (Sum.elim (fun t=>(.ext 0,[(0,(.vp ((.vs (rows t.1))::(.vs (rows t.2.1))::(.int .i64 t.2.2.1)::(.bool t.2.2.2.1)::q0))),(1,(.int .i64 t.2.2.2.2))],[])) (fun t=>(.ret,[(4,(.str t))],[]))):=by
  exact loop_X _ _ _ _ (by intro r; first | (simp; done) | (rcases r with r | r <;> simp; done) | (rcases r with r | r | r <;> simp; done) | (rcases r with r | r | r | r <;> simp)) (fun s=>g89l1_b_eq q0 y0 y1 y2 y3 y4 s) y5
def spec_l09Read (a_d:K0) (a_k:Int):Option (Str):=(spec_l09Read_l1 a_d.1 a_d.2.1 a_d.2.2.1 a_d.2.2.2 a_k (((IntKind.i64.wrap ((a_d.2.1.length:Int) - 1))))).bind fun r9=>Sum.elim (fun u10=>if 0 ≤ u10.2.2.2.2 then (u10.1[(u10.2.2.2.2).toNat]?).bind fun x12=>some x12 else none) (fun u11=>some u11) r9
@[simp] def g89_O:Str → TV × List Blk:=fun r=>((.str r),[])
def g89_E (a:K0 × Int × List TV):List TV:=[(.vp ((.vs (rows a.1.1))::(.vs (rows a.1.2.1))::(.int .i64 a.1.2.2.1)::(.bool a.1.2.2.2)::a.2.2)),(.int .i64 a.2.1)]
theorem g89_run (a_d:K0) (a_k:Int) (q0:List TV):callFn (X g89_S) g89_tf (g89_E (a_d,a_k,q0)) [] = (spec_l09Read a_d a_k).map g89_O:=by
  rw [callFn_eq]
  simp (maxSteps:=2000000) (maxDischargeDepth:=8) -implicitDefEqProofs [g89_tf,spec_l09Read,g89_E] <;> (try simp only [map_to_bind,some_elim,g89_O])
def g89_r:Rule:=RlO g89_E (fun a=>spec_l09Read a.1 a.2.1) g89_O
theorem g89_ok:RuleOk Tryz.prog 100 g89_r:=ok_rlo (S:=g89_S) (tf:=g89_tf) (SysOk.on trivial trivial) (trE_ok (ks:=[[0,1,5]]) Tryz.func100 (by kernel_rfl)) fun a=>g89_run a.1 a.2.1 a.2.2
@[simp] theorem g89_app (y0 y1 y2 y3 y4)(q0:List TV):g89_r [(.vp ((.vs (rows y0))::(.vs (rows y1))::(.int .i64 y2)::(.bool y3)::q0)),(.int .i64 y4)] = (spec_l09Read ((y0,y1,y2,y3)) y4).map g89_O :=
  RlO_app (enc:=g89_E) (by intro a b h; simp [g89_E,Prod.ext_iff] at h ⊢; simp [h]) ((y0,y1,y2,y3),y4,q0)
end
end Go.Proofs.TM
