/- Functions of the program, as functions of their data: written by program. -/
import Derived.Test.YtcibapigoeknmaaGreatDoorTShelf
import Derived.Test.YtcibapigoeknmaaGreatDoorTReadR
import Derived.Test.YtcibapigoeknmaaGreatDoorTLib
import Derived.Test.YtcibapigoeknmaaGreatDoorProg
import Derived.KernelRfl
namespace Go.Proofs.TM
open Go Go.Proofs
set_option linter.unusedVariables false
set_option linter.unusedSimpArgs false
set_option maxHeartbeats 1000000
attribute [-simp] Option.map_bind strV_some
attribute [simp] guardOn_bool sA_bslice Function.comp_def
noncomputable section
abbrev K1:=(List Str × List (Int × Str) × Int × Bool) × (Int × Int × Int × Int) × Int × Int × List (Int × Str) × List (Int × Str)
abbrev K0:=List Str × List (Int × Str) × Int × Bool
/-! laws.szStringS -/
def g58l1_cb:TC:=(.seq (sq [mo 12 5,mo 13 0,le 14 13,bn 15 .lss (.t 12) (.t 14)] [0,1,5,15] (.cond (.t 15) .skip (.keep (kp [(1,0)] [] 0) (.exit 0)))) (.trim [0,1,5] (.seq (.block 1 (sq [mo 18 1,mo 19 0,mo 20 5,ia 21 1 19 20,ld 22 21,oo 23 (.len true (.t 22)),bn 24 .sub (.t 18) (.t 23),mo 1 24] [0,1,5] (sq [mo 25 1,bn 26 .lss (.t 25) (ki 0)] [0,1,5,26] (.cond (.t 26) (.seq (.ops [mk 4 (ki (-1))]) (.keep (kp [(4,0)] [] 0) .ret)) .skip)))) (.trim [0,1,5] (.after (.ops [mo 16 5,bn 17 .add (.t 16) (ki 1),mo 5 17]) (kp [(0,0),(1,0),(5,0)] [] 0))))))
def g58l1_c:TC:=.loop [0,1,5] g58l1_cb
def g58_tf:TFn:=⟨(sq [mk 4 (ki 0)] [0,1] (sq [mo 6 1,mo 7 0,le 8 7,bn 9 .sub (.t 6) (.t 8),mo 1 9] [0,1] (.seq (sq [mo 10 1,bn 11 .lss (.t 10) (ki 0)] [0,1,11] (.cond (.t 11) (.seq (.ops [mk 4 (ki (-1))]) (.keep (kp [(4,0)] [] 0) .ret)) .skip)) (.trim [0,1] (.seq (sq [mk 5 (ki 0)] [0,1,5] (.block 0 (.keep (kp [(0,0),(1,0),(5,0)] [] 0) g58l1_c))) (.trim [1] (.seq (.ops [mo 27 1,mo 4 27]) (.keep (kp [(4,0)] [] 0) .ret)))))))),[.t 4]⟩
abbrev g58_S:=Sys.on [] []
@[reducible,simp] def g58l1_F:((Int) ⊕ (Int)) → Out:=(Sum.elim (fun t=>(.ext 0,[(1,(.int .i64 t))],[])) (fun t=>(.ret,[(4,(.int .i64 t))],[])))
def laws_szStringS_l1_b (v1:List Str) (v2:Int) (v3:Int):Option ((Int × Int) ⊕ ((Int) ⊕ (Int))):=if v3 < (v1.length:Int) then if 0 ≤ v3 then (v1[(v3).toNat]?).bind fun x4=>if (IntKind.i64.wrap (v2 - ((x4.length:Int)))) < 0 then some (.inr (.inr ((-1)))) else some (.inl ((IntKind.i64.wrap (v2 - ((x4.length:Int)))),(IntKind.i64.wrap (v3 + 1)))) else none else some (.inr (.inl v2))
theorem g58l1_b_eq  (v1:List Str) (v2:Int) (v3:Int):X g58_S g58l1_cb (keepEnv [0,1,5] [(0,(.vs (rows v1))),(1,(.int .i64 v2)),(5,(.int .i64 v3))]) [] = (laws_szStringS_l1_b v1 v2 v3).map (Sum.elim (fun s=>(TX.nrm,[(0,(.vs (rows v1))),(1,(.int .i64 s.1)),(5,(.int .i64 s.2))],[])) g58l1_F):=by
  simp (maxSteps:=2000000) (maxDischargeDepth:=8) -implicitDefEqProofs [g58l1_cb,laws_szStringS_l1_b] <;> (try simp only [map_to_bind,some_elim,g58l1_F])
def laws_szStringS_l1 (v1:List Str) (s:Int × Int):Option ((Int) ⊕ (Int)):=loopO (fun s=>laws_szStringS_l1_b v1 s.1 s.2) s
@[simp] theorem g58l1_eq (y0 y1 y2):X g58_S g58l1_c [(0,(.vs (rows y0))),(1,(.int .i64 y1)),(5,(.int .i64 y2))] [] = (laws_szStringS_l1 y0 (y1,y2)).map g58l1_F:=by
  exact loop_X _ _ _ _ (by intro r; first | (simp; done) | (rcases r with r | r <;> simp; done) | (rcases r with r | r | r <;> simp; done) | (rcases r with r | r | r | r <;> simp)) (fun s=>g58l1_b_eq  y0 s.1 s.2) (y1,y2)
def laws_szStringS (a_a:List Str) (a_left:Int):Option (Int):=if (IntKind.i64.wrap (a_left - ((a_a.length:Int)))) < 0 then some ((-1)) else (laws_szStringS_l1 a_a (((IntKind.i64.wrap (a_left - ((a_a.length:Int)))),0))).bind fun r5=>Sum.elim (fun u6=>some u6) (fun u7=>some u7) r5
@[simp] def g58_O:Int → TV × List Blk:=fun r=>((.int .i64 r),[])
def g58_E (a:List Str × Int):List TV:=[(.vs (rows a.1)),(.int .i64 a.2)]
theorem g58_run (a_a:List Str) (a_left:Int) :callFn (X g58_S) g58_tf (g58_E (a_a,a_left)) [] = (laws_szStringS a_a a_left).map g58_O:=by
  rw [callFn_eq]
  simp (maxSteps:=2000000) (maxDischargeDepth:=8) -implicitDefEqProofs [g58_tf,laws_szStringS,g58_E] <;> (try simp only [map_to_bind,some_elim,g58_O])
def g58_r:Rule:=RlO g58_E (fun a=>laws_szStringS a.1 a.2) g58_O
theorem g58_ok:RuleOk Tryz.prog 30 g58_r:=ok_rlo (S:=g58_S) (tf:=g58_tf) (SysOk.on trivial trivial) (trE_ok (ks:=[[0,1,5]]) Tryz.func30 (by kernel_rfl)) fun a=>g58_run a.1 a.2
@[simp] theorem g58_app (y0 y1):g58_r [(.vs (rows y0)),(.int .i64 y1)] = (laws_szStringS y0 y1).map g58_O :=
  RlO_app (enc:=g58_E) (by intro a b h; simp [g58_E,Prod.ext_iff] at h ⊢; simp [h]) (y0,y1)
/-! laws.szPut -/
def g108_tf:TFn:=⟨(sq [bx 2 0,mk 4 (ki 0)] [1,2] (sq [mo 5 1,fa 6 1 2,ld 7 6,oo 8 (.len true (.t 7)),bn 9 .sub (.t 5) (.t 8),mo 1 9] [1] (.seq (sq [mo 10 1,bn 11 .lss (.t 10) (ki 0)] [1,11] (.cond (.t 11) (.seq (.ops [mk 4 (ki (-1))]) (.keep (kp [(4,0)] [] 0) .ret)) .skip)) (.trim [1] (.seq (.ops [mo 12 1,mo 4 12]) (.keep (kp [(4,0)] [] 0) .ret)))))),[.t 4]⟩
abbrev g108_S:=Sys.on [] []
def laws_szPut (a_a:Int × Str) (a_left:Int):Option (Int):=if (IntKind.i64.wrap (a_left - ((a_a.2.length:Int)))) < 0 then some ((-1)) else some ((IntKind.i64.wrap (a_left - ((a_a.2.length:Int)))))
@[simp] def g108_O:Int → TV × List Blk:=fun r=>((.int .i64 r),[])
def g108_E (a:(Int × Str) × Int):List TV:=[(.agg [(.int .i64 a.1.1),(.str a.1.2)]),(.int .i64 a.2)]
theorem g108_run (a_a:Int × Str) (a_left:Int) :callFn (X g108_S) g108_tf (g108_E (a_a,a_left)) [] = (laws_szPut a_a a_left).map g108_O:=by
  rw [callFn_eq]
  simp (maxSteps:=2000000) (maxDischargeDepth:=8) -implicitDefEqProofs [g108_tf,laws_szPut,g108_E] <;> (try simp only [map_to_bind,some_elim,g108_O])
def g108_r:Rule:=RlO g108_E (fun a=>laws_szPut a.1 a.2) g108_O
theorem g108_ok:RuleOk Tryz.prog 68 g108_r:=ok_rlo (S:=g108_S) (tf:=g108_tf) (SysOk.on trivial trivial) (trE_ok (ks:=[]) Tryz.func68 (by kernel_rfl)) fun a=>g108_run a.1 a.2
@[simp] theorem g108_app (y0 y1 y2):g108_r [(.agg [(.int .i64 y0),(.str y1)]),(.int .i64 y2)] = (laws_szPut ((y0,y1)) y2).map g108_O :=
  RlO_app (enc:=g108_E) (by intro a b h; simp [g108_E,Prod.ext_iff] at h ⊢; simp [h]) ((y0,y1),y2)
/-! laws.szPutS -/
def g94l1_cb:TC:=(.seq (sq [mo 12 5,mo 13 0,le 14 13,bn 15 .lss (.t 12) (.t 14)] [0,1,5,15] (.cond (.t 15) .skip (.keep (kp [(1,0)] [] 0) (.exit 0)))) (.trim [0,1,5] (.seq (.block 1 (sq [mo 18 0,mo 19 5,ia 20 2 18 19,ln 21 2 20,mo 22 1,ca 23 68 [.t 21,.t 22],mo 1 23] [0,1,5] (sq [mo 24 1,bn 25 .lss (.t 24) (ki 0)] [0,1,5,25] (.cond (.t 25) (.seq (.ops [mk 4 (ki (-1))]) (.keep (kp [(4,0)] [] 0) .ret)) .skip)))) (.trim [0,1,5] (.after (.ops [mo 16 5,bn 17 .add (.t 16) (ki 1),mo 5 17]) (kp [(0,0),(1,0),(5,0)] [] 0))))))
def g94l1_c:TC:=.loop [0,1,5] g94l1_cb
def g94_tf:TFn:=⟨(sq [mk 4 (ki 0)] [0,1] (sq [mo 6 1,mo 7 0,le 8 7,bn 9 .sub (.t 6) (.t 8),mo 1 9] [0,1] (.seq (sq [mo 10 1,bn 11 .lss (.t 10) (ki 0)] [0,1,11] (.cond (.t 11) (.seq (.ops [mk 4 (ki (-1))]) (.keep (kp [(4,0)] [] 0) .ret)) .skip)) (.trim [0,1] (.seq (sq [mk 5 (ki 0)] [0,1,5] (.block 0 (.keep (kp [(0,0),(1,0),(5,0)] [] 0) g94l1_c))) (.trim [1] (.seq (.ops [mo 26 1,mo 4 26]) (.keep (kp [(4,0)] [] 0) .ret)))))))),[.t 4]⟩
abbrev g94_S:=Sys.on [(68,g108_r)] []
@[reducible,simp] def g94l1_F:((Int) ⊕ (Int)) → Out:=(Sum.elim (fun t=>(.ext 0,[(1,(.int .i64 t))],[])) (fun t=>(.ret,[(4,(.int .i64 t))],[])))
def laws_szPutS_l1_b (v1:List (Int × Str)) (v2:Int) (v3:Int):Option ((Int × Int) ⊕ ((Int) ⊕ (Int))):=if v3 < (v1.length:Int) then if 0 ≤ v3 then (v1[(v3).toNat]?).bind fun x4=>(laws_szPut x4 v2).bind fun r5=>if r5 < 0 then some (.inr (.inr ((-1)))) else some (.inl (r5,(IntKind.i64.wrap (v3 + 1)))) else none else some (.inr (.inl v2))
theorem g94l1_b_eq  (v1:List (Int × Str)) (v2:Int) (v3:Int):X g94_S g94l1_cb (keepEnv [0,1,5] [(0,(.vs (rows v1))),(1,(.int .i64 v2)),(5,(.int .i64 v3))]) [] = (laws_szPutS_l1_b v1 v2 v3).map (Sum.elim (fun s=>(TX.nrm,[(0,(.vs (rows v1))),(1,(.int .i64 s.1)),(5,(.int .i64 s.2))],[])) g94l1_F):=by
  simp (maxSteps:=2000000) (maxDischargeDepth:=8) -implicitDefEqProofs [g94l1_cb,laws_szPutS_l1_b] <;> (try simp only [map_to_bind,some_elim,g94l1_F])
def laws_szPutS_l1 (v1:List (Int × Str)) (s:Int × Int):Option ((Int) ⊕ (Int)):=loopO (fun s=>laws_szPutS_l1_b v1 s.1 s.2) s
@[simp] theorem g94l1_eq (y0 y1 y2):X g94_S g94l1_c [(0,(.vs (rows y0))),(1,(.int .i64 y1)),(5,(.int .i64 y2))] [] = (laws_szPutS_l1 y0 (y1,y2)).map g94l1_F:=by
  exact loop_X _ _ _ _ (by intro r; first | (simp; done) | (rcases r with r | r <;> simp; done) | (rcases r with r | r | r <;> simp; done) | (rcases r with r | r | r | r <;> simp)) (fun s=>g94l1_b_eq  y0 s.1 s.2) (y1,y2)
def laws_szPutS (a_a:List (Int × Str)) (a_left:Int):Option (Int):=if (IntKind.i64.wrap (a_left - ((a_a.length:Int)))) < 0 then some ((-1)) else (laws_szPutS_l1 a_a (((IntKind.i64.wrap (a_left - ((a_a.length:Int)))),0))).bind fun r6=>Sum.elim (fun u7=>some u7) (fun u8=>some u8) r6
@[simp] def g94_O:Int → TV × List Blk:=fun r=>((.int .i64 r),[])
def g94_E (a:(List (Int × Str)) × Int):List TV:=[(.vs (rows a.1)),(.int .i64 a.2)]
theorem g94_run (a_a:List (Int × Str)) (a_left:Int) :callFn (X g94_S) g94_tf (g94_E (a_a,a_left)) [] = (laws_szPutS a_a a_left).map g94_O:=by
  rw [callFn_eq]
  simp (maxSteps:=2000000) (maxDischargeDepth:=8) -implicitDefEqProofs [g94_tf,laws_szPutS,g94_E] <;> (try simp only [map_to_bind,some_elim,g94_O])
def g94_r:Rule:=RlO g94_E (fun a=>laws_szPutS a.1 a.2) g94_O
theorem g94_ok:RuleOk Tryz.prog 31 g94_r:=ok_rlo (S:=g94_S) (tf:=g94_tf) (SysOk.on ⟨g108_ok,trivial⟩ trivial) (trE_ok (ks:=[[0,1,5]]) Tryz.func31 (by kernel_rfl)) fun a=>g94_run a.1 a.2
@[simp] theorem g94_app (y0 y1):g94_r [(.vs (rows y0)),(.int .i64 y1)] = (laws_szPutS y0 y1).map g94_O :=
  RlO_app (enc:=g94_E) (by intro a b h; simp [g94_E,Prod.ext_iff] at h ⊢; simp [h]) (y0,y1)
/-! laws.szDisk -/
def g95_tf:TFn:=⟨(sq [bx 2 0,mk 4 (ki 0)] [1,2] (sq [fa 5 0 2,ld 6 5,mo 7 1,ca 8 30 [.t 6,.t 7],mo 1 8] [1,2] (.seq (sq [mo 9 1,bn 10 .lss (.t 9) (ki 0)] [1,2,10] (.cond (.t 10) (.seq (.ops [mk 4 (ki (-1))]) (.keep (kp [(4,0)] [] 0) .ret)) .skip)) (.trim [1,2] (sq [fa 11 1 2,ld 12 11,mo 13 1,ca 14 31 [.t 12,.t 13],mo 1 14] [1] (.seq (sq [mo 15 1,bn 16 .lss (.t 15) (ki 0)] [1,16] (.cond (.t 16) (.seq (.ops [mk 4 (ki (-1))]) (.keep (kp [(4,0)] [] 0) .ret)) .skip)) (.trim [1] (.seq (.ops [mo 17 1,mo 4 17]) (.keep (kp [(4,0)] [] 0) .ret))))))))),[.t 4]⟩
abbrev g95_S:=Sys.on [(30,g58_r),(31,g94_r)] []
def laws_szDisk (a_a:K0) (a_left:Int):Option (Int):=(laws_szStringS a_a.1 a_left).bind fun r1=>if r1 < 0 then some ((-1)) else (laws_szPutS a_a.2.1 r1).bind fun r2=>if r2 < 0 then some ((-1)) else some r2
@[simp] def g95_O:Int → TV × List Blk:=fun r=>((.int .i64 r),[])
def g95_E (a:K0 × Int):List TV:=[(.agg [(.vs (rows a.1.1)),(.vs (rows a.1.2.1)),(.int .i64 a.1.2.2.1),(.bool a.1.2.2.2)]),(.int .i64 a.2)]
theorem g95_run (a_a:K0) (a_left:Int) :callFn (X g95_S) g95_tf (g95_E (a_a,a_left)) [] = (laws_szDisk a_a a_left).map g95_O:=by
  rw [callFn_eq]
  simp (maxSteps:=2000000) (maxDischargeDepth:=8) -implicitDefEqProofs [g95_tf,laws_szDisk,g95_E] <;> (try simp only [map_to_bind,some_elim,g95_O])
def g95_r:Rule:=RlO g95_E (fun a=>laws_szDisk a.1 a.2) g95_O
theorem g95_ok:RuleOk Tryz.prog 11 g95_r:=ok_rlo (S:=g95_S) (tf:=g95_tf) (SysOk.on ⟨g58_ok,g94_ok,trivial⟩ trivial) (trE_ok (ks:=[]) Tryz.func11 (by kernel_rfl)) fun a=>g95_run a.1 a.2
@[simp] theorem g95_app (y0 y1 y2 y3 y4):g95_r [(.agg [(.vs (rows y0)),(.vs (rows y1)),(.int .i64 y2),(.bool y3)]),(.int .i64 y4)] = (laws_szDisk ((y0,y1,y2,y3)) y4).map g95_O :=
  RlO_app (enc:=g95_E) (by intro a b h; simp [g95_E,Prod.ext_iff] at h ⊢; simp [h]) ((y0,y1,y2,y3),y4)
/-! laws.szPage -/
def g96_tf:TFn:=⟨(sq [bx 2 0,mk 4 (ki 0)] [1,2] (sq [mo 5 1,fa 6 1 2,ld 7 6,oo 8 (.len true (.t 7)),bn 9 .sub (.t 5) (.t 8),mo 1 9] [1] (.seq (sq [mo 10 1,bn 11 .lss (.t 10) (ki 0)] [1,11] (.cond (.t 11) (.seq (.ops [mk 4 (ki (-1))]) (.keep (kp [(4,0)] [] 0) .ret)) .skip)) (.trim [1] (.seq (.ops [mo 12 1,mo 4 12]) (.keep (kp [(4,0)] [] 0) .ret)))))),[.t 4]⟩
abbrev g96_S:=Sys.on [] []
def laws_szPage (a_a:Int × Str) (a_left:Int):Option (Int):=if (IntKind.i64.wrap (a_left - ((a_a.2.length:Int)))) < 0 then some ((-1)) else some ((IntKind.i64.wrap (a_left - ((a_a.2.length:Int)))))
@[simp] def g96_O:Int → TV × List Blk:=fun r=>((.int .i64 r),[])
def g96_E (a:(Int × Str) × Int):List TV:=[(.agg [(.int .i64 a.1.1),(.str a.1.2)]),(.int .i64 a.2)]
theorem g96_run (a_a:Int × Str) (a_left:Int) :callFn (X g96_S) g96_tf (g96_E (a_a,a_left)) [] = (laws_szPage a_a a_left).map g96_O:=by
  rw [callFn_eq]
  simp (maxSteps:=2000000) (maxDischargeDepth:=8) -implicitDefEqProofs [g96_tf,laws_szPage,g96_E] <;> (try simp only [map_to_bind,some_elim,g96_O])
def g96_r:Rule:=RlO g96_E (fun a=>laws_szPage a.1 a.2) g96_O
theorem g96_ok:RuleOk Tryz.prog 32 g96_r:=ok_rlo (S:=g96_S) (tf:=g96_tf) (SysOk.on trivial trivial) (trE_ok (ks:=[]) Tryz.func32 (by kernel_rfl)) fun a=>g96_run a.1 a.2
@[simp] theorem g96_app (y0 y1 y2):g96_r [(.agg [(.int .i64 y0),(.str y1)]),(.int .i64 y2)] = (laws_szPage ((y0,y1)) y2).map g96_O :=
  RlO_app (enc:=g96_E) (by intro a b h; simp [g96_E,Prod.ext_iff] at h ⊢; simp [h]) ((y0,y1),y2)
/-! laws.szPageS -/
def g79l1_cb:TC:=(.seq (sq [mo 12 5,mo 13 0,le 14 13,bn 15 .lss (.t 12) (.t 14)] [0,1,5,15] (.cond (.t 15) .skip (.keep (kp [(1,0)] [] 0) (.exit 0)))) (.trim [0,1,5] (.seq (.block 1 (sq [mo 18 0,mo 19 5,ia 20 2 18 19,ln 21 2 20,mo 22 1,ca 23 32 [.t 21,.t 22],mo 1 23] [0,1,5] (sq [mo 24 1,bn 25 .lss (.t 24) (ki 0)] [0,1,5,25] (.cond (.t 25) (.seq (.ops [mk 4 (ki (-1))]) (.keep (kp [(4,0)] [] 0) .ret)) .skip)))) (.trim [0,1,5] (.after (.ops [mo 16 5,bn 17 .add (.t 16) (ki 1),mo 5 17]) (kp [(0,0),(1,0),(5,0)] [] 0))))))
def g79l1_c:TC:=.loop [0,1,5] g79l1_cb
def g79_tf:TFn:=⟨(sq [mk 4 (ki 0)] [0,1] (sq [mo 6 1,mo 7 0,le 8 7,bn 9 .sub (.t 6) (.t 8),mo 1 9] [0,1] (.seq (sq [mo 10 1,bn 11 .lss (.t 10) (ki 0)] [0,1,11] (.cond (.t 11) (.seq (.ops [mk 4 (ki (-1))]) (.keep (kp [(4,0)] [] 0) .ret)) .skip)) (.trim [0,1] (.seq (sq [mk 5 (ki 0)] [0,1,5] (.block 0 (.keep (kp [(0,0),(1,0),(5,0)] [] 0) g79l1_c))) (.trim [1] (.seq (.ops [mo 26 1,mo 4 26]) (.keep (kp [(4,0)] [] 0) .ret)))))))),[.t 4]⟩
abbrev g79_S:=Sys.on [(32,g96_r)] []
@[reducible,simp] def g79l1_F:((Int) ⊕ (Int)) → Out:=(Sum.elim (fun t=>(.ext 0,[(1,(.int .i64 t))],[])) (fun t=>(.ret,[(4,(.int .i64 t))],[])))
def laws_szPageS_l1_b (v1:List (Int × Str)) (v2:Int) (v3:Int):Option ((Int × Int) ⊕ ((Int) ⊕ (Int))):=if v3 < (v1.length:Int) then if 0 ≤ v3 then (v1[(v3).toNat]?).bind fun x4=>(laws_szPage x4 v2).bind fun r5=>if r5 < 0 then some (.inr (.inr ((-1)))) else some (.inl (r5,(IntKind.i64.wrap (v3 + 1)))) else none else some (.inr (.inl v2))
theorem g79l1_b_eq  (v1:List (Int × Str)) (v2:Int) (v3:Int):X g79_S g79l1_cb (keepEnv [0,1,5] [(0,(.vs (rows v1))),(1,(.int .i64 v2)),(5,(.int .i64 v3))]) [] = (laws_szPageS_l1_b v1 v2 v3).map (Sum.elim (fun s=>(TX.nrm,[(0,(.vs (rows v1))),(1,(.int .i64 s.1)),(5,(.int .i64 s.2))],[])) g79l1_F):=by
  simp (maxSteps:=2000000) (maxDischargeDepth:=8) -implicitDefEqProofs [g79l1_cb,laws_szPageS_l1_b] <;> (try simp only [map_to_bind,some_elim,g79l1_F])
def laws_szPageS_l1 (v1:List (Int × Str)) (s:Int × Int):Option ((Int) ⊕ (Int)):=loopO (fun s=>laws_szPageS_l1_b v1 s.1 s.2) s
@[simp] theorem g79l1_eq (y0 y1 y2):X g79_S g79l1_c [(0,(.vs (rows y0))),(1,(.int .i64 y1)),(5,(.int .i64 y2))] [] = (laws_szPageS_l1 y0 (y1,y2)).map g79l1_F:=by
  exact loop_X _ _ _ _ (by intro r; first | (simp; done) | (rcases r with r | r <;> simp; done) | (rcases r with r | r | r <;> simp; done) | (rcases r with r | r | r | r <;> simp)) (fun s=>g79l1_b_eq  y0 s.1 s.2) (y1,y2)
def laws_szPageS (a_a:List (Int × Str)) (a_left:Int):Option (Int):=if (IntKind.i64.wrap (a_left - ((a_a.length:Int)))) < 0 then some ((-1)) else (laws_szPageS_l1 a_a (((IntKind.i64.wrap (a_left - ((a_a.length:Int)))),0))).bind fun r6=>Sum.elim (fun u7=>some u7) (fun u8=>some u8) r6
@[simp] def g79_O:Int → TV × List Blk:=fun r=>((.int .i64 r),[])
def g79_E (a:(List (Int × Str)) × Int):List TV:=[(.vs (rows a.1)),(.int .i64 a.2)]
theorem g79_run (a_a:List (Int × Str)) (a_left:Int) :callFn (X g79_S) g79_tf (g79_E (a_a,a_left)) [] = (laws_szPageS a_a a_left).map g79_O:=by
  rw [callFn_eq]
  simp (maxSteps:=2000000) (maxDischargeDepth:=8) -implicitDefEqProofs [g79_tf,laws_szPageS,g79_E] <;> (try simp only [map_to_bind,some_elim,g79_O])
def g79_r:Rule:=RlO g79_E (fun a=>laws_szPageS a.1 a.2) g79_O
theorem g79_ok:RuleOk Tryz.prog 12 g79_r:=ok_rlo (S:=g79_S) (tf:=g79_tf) (SysOk.on ⟨g96_ok,trivial⟩ trivial) (trE_ok (ks:=[[0,1,5]]) Tryz.func12 (by kernel_rfl)) fun a=>g79_run a.1 a.2
@[simp] theorem g79_app (y0 y1):g79_r [(.vs (rows y0)),(.int .i64 y1)] = (laws_szPageS y0 y1).map g79_O :=
  RlO_app (enc:=g79_E) (by intro a b h; simp [g79_E,Prod.ext_iff] at h ⊢; simp [h]) (y0,y1)
/-! laws.szPager -/
def g80_tf:TFn:=⟨(sq [bx 2 0,mk 4 (ki 0)] [1,2] (sq [fa 5 0 2,ln 6 4 5,mo 7 1,ca 8 11 [.t 6,.t 7],mo 1 8] [1,2] (.seq (sq [mo 9 1,bn 10 .lss (.t 9) (ki 0)] [1,2,10] (.cond (.t 10) (.seq (.ops [mk 4 (ki (-1))]) (.keep (kp [(4,0)] [] 0) .ret)) .skip)) (.trim [1,2] (sq [fa 11 10 2,ld 12 11,mo 13 1,ca 14 12 [.t 12,.t 13],mo 1 14] [1,2] (.seq (sq [mo 15 1,bn 16 .lss (.t 15) (ki 0)] [1,2,16] (.cond (.t 16) (.seq (.ops [mk 4 (ki (-1))]) (.keep (kp [(4,0)] [] 0) .ret)) .skip)) (.trim [1,2] (sq [fa 17 11 2,ld 18 17,mo 19 1,ca 20 12 [.t 18,.t 19],mo 1 20] [1] (.seq (sq [mo 21 1,bn 22 .lss (.t 21) (ki 0)] [1,22] (.cond (.t 22) (.seq (.ops [mk 4 (ki (-1))]) (.keep (kp [(4,0)] [] 0) .ret)) .skip)) (.trim [1] (.seq (.ops [mo 23 1,mo 4 23]) (.keep (kp [(4,0)] [] 0) .ret)))))))))))),[.t 4]⟩
abbrev g80_S:=Sys.on [(11,g95_r),(12,g79_r)] []
def laws_szPager (a_a:K1) (a_left:Int):Option (Int):=(laws_szDisk a_a.1 a_left).bind fun r1=>if r1 < 0 then some ((-1)) else (laws_szPageS a_a.2.2.2.2.1 r1).bind fun r2=>if r2 < 0 then some ((-1)) else (laws_szPageS a_a.2.2.2.2.2 r2).bind fun r3=>if r3 < 0 then some ((-1)) else some r3
@[simp] def g80_O:Int → TV × List Blk:=fun r=>((.int .i64 r),[])
def g80_E (a:K1 × Int):List TV:=[(.agg [(.vs (rows a.1.1.1)),(.vs (rows a.1.1.2.1)),(.int .i64 a.1.1.2.2.1),(.bool a.1.1.2.2.2),(.int .i64 a.1.2.1.1),(.int .i64 a.1.2.1.2.1),(.int .i64 a.1.2.1.2.2.1),(.int .i64 a.1.2.1.2.2.2),(.int .i64 a.1.2.2.1),(.int .i64 a.1.2.2.2.1),(.vs (rows a.1.2.2.2.2.1)),(.vs (rows a.1.2.2.2.2.2))]),(.int .i64 a.2)]
theorem g80_run (a_a:K1) (a_left:Int) :callFn (X g80_S) g80_tf (g80_E (a_a,a_left)) [] = (laws_szPager a_a a_left).map g80_O:=by
  rw [callFn_eq]
  simp (maxSteps:=2000000) (maxDischargeDepth:=8) -implicitDefEqProofs [g80_tf,laws_szPager,g80_E] <;> (try simp only [map_to_bind,some_elim,g80_O])
def g80_r:Rule:=RlO g80_E (fun a=>laws_szPager a.1 a.2) g80_O
theorem g80_ok:RuleOk Tryz.prog 4 g80_r:=ok_rlo (S:=g80_S) (tf:=g80_tf) (SysOk.on ⟨g95_ok,g79_ok,trivial⟩ trivial) (trE_ok (ks:=[]) Tryz.func4 (by kernel_rfl)) fun a=>g80_run a.1 a.2
@[simp] theorem g80_app (y0 y1 y2 y3 y4 y5 y6 y7 y8 y9 y10 y11 y12):g80_r [(.agg [(.vs (rows y0)),(.vs (rows y1)),(.int .i64 y2),(.bool y3),(.int .i64 y4),(.int .i64 y5),(.int .i64 y6),(.int .i64 y7),(.int .i64 y8),(.int .i64 y9),(.vs (rows y10)),(.vs (rows y11))]),(.int .i64 y12)] = (laws_szPager (((y0,y1,y2,y3),(y4,y5,y6,y7),y8,y9,y10,y11)) y12).map g80_O :=
  RlO_app (enc:=g80_E) (by intro a b h; simp [g80_E,Prod.ext_iff] at h ⊢; simp [h]) (((y0,y1,y2,y3),(y4,y5,y6,y7),y8,y9,y10,y11),y12)
/-! laws.toStringS -/
def g59l1_cb:TC:=(.seq (sq [mo 8 4,mo 9 0,le 10 9,bn 11 .lss (.t 8) (.t 10)] [0,3,4,11] (.cond (.t 11) .skip (.keep (kp [(3,1)] [(0,1)] 0) (.exit 0)))) (.trim [0,3,4] (.seq (.block 1 (.ops [mo 14 3,mo 15 4,mo 16 0,mo 17 4,ia 18 1 16 17,ld 19 18,ia 20 1 14 15,⟨none,none,(.store 1 (.t 20) (.t 19))⟩])) (.trim [0,3,4] (.after (.ops [mo 12 4,bn 13 .add (.t 12) (ki 1),mo 4 13]) (kp [(0,0),(3,1),(4,0)] [(0,1)] 0))))))
def g59l1_c:TC:=.loop [0,3,4] g59l1_cb
def g59_tf:TFn:=⟨(sq [mk 2 (.c .nils)] [0] (sq [mo 5 0,le 6 5,oo 7 (.mkslice 16 [(.str [])] (.t 6) (.t 6)),mo 3 7] [0,3] (.seq (sq [mk 4 (ki 0)] [0,3,4] (.block 0 (.keep (kp [(0,0),(3,1),(4,0)] [(0,1)] 0) g59l1_c))) (.trim [3] (.seq (.ops [mo 21 3,mo 2 21]) (.keep (kp [(2,1)] [(0,1)] 0) .ret)))))),[.t 2]⟩
abbrev g59_S:=Sys.on [] []
@[reducible,simp] def g59l1_F:(List Str) → Out:=(fun t=>(.ext 0,[(3,(ow 0 t.length))],[(ob 1 t)]))
def laws_toStringS_l1_b (v2:List Str) (v3:List Str) (v4:Int):Option ((List Str × Int) ⊕ (List Str)):=if v4 < (v2.length:Int) then if 0 ≤ v4 then (v2[(v4).toNat]?).bind fun x5=>if 0 ≤ v4 ∧ v4 < ((v3.length:Nat):Int) then (v3[(v4).toNat]?).bind fun x6=>some (.inl ((v3.set (v4).toNat x5),(IntKind.i64.wrap (v4 + 1)))) else none else none else some (.inr v3)
theorem g59l1_b_eq  (v2:List Str) (v3:List Str) (v4:Int):X g59_S g59l1_cb (keepEnv [0,3,4] [(0,(.vs (rows v2))),(3,(ow 0 v3.length)),(4,(.int .i64 v4))]) [(ob 1 v3)] = (laws_toStringS_l1_b v2 v3 v4).map (Sum.elim (fun s=>(TX.nrm,[(0,(.vs (rows v2))),(3,(ow 0 s.1.length)),(4,(.int .i64 s.2))],[(ob 1 s.1)])) g59l1_F):=by
  simp (maxSteps:=2000000) (maxDischargeDepth:=8) -implicitDefEqProofs [g59l1_cb,laws_toStringS_l1_b,mksliceV_typed (z:=(([]:Str):Str)) (zs:=[(.str [])]) rfl (by decide)] <;> (try simp only [map_to_bind,some_elim,g59l1_F])
def laws_toStringS_l1 (v2:List Str) (s:List Str × Int):Option (List Str):=loopO (fun s=>laws_toStringS_l1_b v2 s.1 s.2) s
@[simp] theorem g59l1_eq (y0)(y1:List Str)(y2){n1:Nat}(h1:n1 = y1.length):X g59_S g59l1_c [(0,(.vs (rows y0))),(3,(ow 0 n1)),(4,(.int .i64 y2))] [(ob 1 y1)] = (laws_toStringS_l1 y0 (y1,y2)).map g59l1_F:=by
  subst h1
  exact loop_X _ _ _ _ (by intro r; first | (simp; done) | (rcases r with r | r <;> simp; done) | (rcases r with r | r | r <;> simp; done) | (rcases r with r | r | r | r <;> simp)) (fun s=>g59l1_b_eq  y0 s.1 s.2) (y1,y2)
def laws_toStringS (a_a:List Str):Option (List Str):=(mkL 16 ((a_a.length:Int)) ((a_a.length:Int)) (([]:Str):Str)).bind fun l1=>(laws_toStringS_l1 a_a ((l1,0))).bind fun r7=>some r7
@[simp] def g59_O:List Str → TV × List Blk:=fun r=>((ow 0 r.length),[(ob 1 r)])
def g59_E (a:List Str):List TV:=[(.vs (rows a))]
theorem g59_run (a_a:List Str) :callFn (X g59_S) g59_tf (g59_E a_a) [] = (laws_toStringS a_a).map g59_O:=by
  rw [callFn_eq]
  simp (maxSteps:=2000000) (maxDischargeDepth:=8) -implicitDefEqProofs [g59_tf,laws_toStringS,g59_E,mksliceV_typed (z:=(([]:Str):Str)) (zs:=[(.str [])]) rfl (by decide)] <;> (try simp only [map_to_bind,some_elim,g59_O])
def g59_r:Rule:=RlO g59_E (fun a=>laws_toStringS a) g59_O
theorem g59_ok:RuleOk Tryz.prog 44 g59_r:=ok_rlo (S:=g59_S) (tf:=g59_tf) (SysOk.on trivial trivial) (trE_ok (ks:=[[0,3,4]]) Tryz.func44 (by kernel_rfl)) fun a=>g59_run a
@[simp] theorem g59_app (y0):g59_r [(.vs (rows y0))] = (laws_toStringS y0).map g59_O :=
  RlO_app (enc:=g59_E) (by intro a b h; simp [g59_E,Prod.ext_iff] at h ⊢; simp [h]) y0
/-! laws.toPut -/
def g109_tf:TFn:=⟨(sq [bx 1 0,oo 2 (.alloc [(.int .i64 0),(.str [])])] [1,2] (sq [oo 3 (.alloc [(.int .i64 0),(.str [])])] [1,2,3] (sq [fa 4 0 1,ld 5 4,fa 6 0 3,⟨none,none,(.store 1 (.t 6) (.t 5))⟩] [1,2,3] (sq [fa 7 1 1,ld 8 7,fa 9 1 3,⟨none,none,(.store 1 (.t 9) (.t 8))⟩] [2,3] (.seq (.ops [ln 10 2 3,⟨none,none,(.store 2 (.t 2) (.t 10))⟩]) (.keep (kp [(2,0)] [(1,0)] 0) .ret)))))),[.cell 2 (some 2)]⟩
abbrev g109_S:=Sys.on [] []
def laws_toPut (a_a:Int × Str):Option ((Int × Str)):=some a_a
@[simp] def g109_O:((Int × Str)) → TV × List Blk:=fun r=>((.agg [(.int .i64 r.1),(.str r.2)]),[(.live 2 [[(.int .i64 r.1),(.str r.2)]])])
def g109_E (a:(Int × Str)):List TV:=[(.agg [(.int .i64 a.1),(.str a.2)])]
theorem g109_run (a_a:Int × Str) :callFn (X g109_S) g109_tf (g109_E a_a) [] = (laws_toPut a_a).map g109_O:=by
  rw [callFn_eq]
  simp (maxSteps:=2000000) (maxDischargeDepth:=8) -implicitDefEqProofs [g109_tf,laws_toPut,g109_E] <;> (try simp only [map_to_bind,some_elim,g109_O])
def g109_r:Rule:=RlO g109_E (fun a=>laws_toPut a) g109_O
theorem g109_ok:RuleOk Tryz.prog 76 g109_r:=ok_rlo (S:=g109_S) (tf:=g109_tf) (SysOk.on trivial trivial) (trE_ok (ks:=[]) Tryz.func76 (by kernel_rfl)) fun a=>g109_run a
@[simp] theorem g109_app (y0 y1):g109_r [(.agg [(.int .i64 y0),(.str y1)])] = (laws_toPut ((y0,y1))).map g109_O :=
  RlO_app (enc:=g109_E) (by intro a b h; simp [g109_E,Prod.ext_iff] at h ⊢; simp [h]) ((y0,y1))
/-! laws.toPutS -/
def g97l1_cb:TC:=(.seq (sq [mo 8 4,mo 9 0,le 10 9,bn 11 .lss (.t 8) (.t 10)] [0,3,4,11] (.cond (.t 11) .skip (.keep (kp [(3,1)] [(0,1)] 0) (.exit 0)))) (.trim [0,3,4] (.seq (.block 1 (.ops [mo 14 3,mo 15 4,mo 16 0,mo 17 4,ia 18 2 16 17,ln 19 2 18,ca 20 76 [.t 19],ia 21 2 14 15,⟨none,none,(.store 2 (.t 21) (.t 20))⟩])) (.trim [0,3,4] (.after (.ops [mo 12 4,bn 13 .add (.t 12) (ki 1),mo 4 13]) (kp [(0,0),(3,1),(4,0)] [(0,1)] 0))))))
def g97l1_c:TC:=.loop [0,3,4] g97l1_cb
def g97_tf:TFn:=⟨(sq [mk 2 (.c .nils)] [0] (sq [mo 5 0,le 6 5,oo 7 (.mkslice 24 [(.int .i64 0),(.str [])] (.t 6) (.t 6)),mo 3 7] [0,3] (.seq (sq [mk 4 (ki 0)] [0,3,4] (.block 0 (.keep (kp [(0,0),(3,1),(4,0)] [(0,1)] 0) g97l1_c))) (.trim [3] (.seq (.ops [mo 22 3,mo 2 22]) (.keep (kp [(2,1)] [(0,1)] 0) .ret)))))),[.t 2]⟩
abbrev g97_S:=Sys.on [(76,g109_r)] []
@[reducible,simp] def g97l1_F:((List (Int × Str))) → Out:=(fun t=>(.ext 0,[(3,(ow 0 t.length))],[(ob 2 t)]))
def laws_toPutS_l1_b (v2:List (Int × Str)) (v3:List (Int × Str)) (v4:Int):Option (((List (Int × Str)) × Int) ⊕ ((List (Int × Str)))):=if v4 < (v2.length:Int) then if 0 ≤ v4 then (v2[(v4).toNat]?).bind fun x5=>(laws_toPut x5).bind fun r6=>if 0 ≤ v4 ∧ v4 < ((v3.length:Nat):Int) then (v3[(v4).toNat]?).bind fun x7=>some (.inl ((v3.set (v4).toNat (r6.1,r6.2)),(IntKind.i64.wrap (v4 + 1)))) else none else none else some (.inr v3)
theorem g97l1_b_eq  (v2:List (Int × Str)) (v3:List (Int × Str)) (v4:Int):X g97_S g97l1_cb (keepEnv [0,3,4] [(0,(.vs (rows v2))),(3,(ow 0 v3.length)),(4,(.int .i64 v4))]) [(ob 2 v3)] = (laws_toPutS_l1_b v2 v3 v4).map (Sum.elim (fun s=>(TX.nrm,[(0,(.vs (rows v2))),(3,(ow 0 s.1.length)),(4,(.int .i64 s.2))],[(ob 2 s.1)])) g97l1_F):=by
  simp (maxSteps:=2000000) (maxDischargeDepth:=8) -implicitDefEqProofs [g97l1_cb,laws_toPutS_l1_b,mksliceV_typed (z:=((0,([]:Str)):Int × Str)) (zs:=[(.int .i64 0),(.str [])]) rfl (by decide)] <;> (try simp only [map_to_bind,some_elim,g97l1_F])
def laws_toPutS_l1 (v2:List (Int × Str)) (s:(List (Int × Str)) × Int):Option ((List (Int × Str))):=loopO (fun s=>laws_toPutS_l1_b v2 s.1 s.2) s
@[simp] theorem g97l1_eq (y0)(y1:List (Int × Str))(y2){n1:Nat}(h1:n1 = y1.length):X g97_S g97l1_c [(0,(.vs (rows y0))),(3,(ow 0 n1)),(4,(.int .i64 y2))] [(ob 2 y1)] = (laws_toPutS_l1 y0 (y1,y2)).map g97l1_F:=by
  subst h1
  exact loop_X _ _ _ _ (by intro r; first | (simp; done) | (rcases r with r | r <;> simp; done) | (rcases r with r | r | r <;> simp; done) | (rcases r with r | r | r | r <;> simp)) (fun s=>g97l1_b_eq  y0 s.1 s.2) (y1,y2)
def laws_toPutS (a_a:List (Int × Str)):Option ((List (Int × Str))):=(mkL 24 ((a_a.length:Int)) ((a_a.length:Int)) ((0,([]:Str)):Int × Str)).bind fun l1=>(laws_toPutS_l1 a_a ((l1,0))).bind fun r8=>some r8
@[simp] def g97_O:((List (Int × Str))) → TV × List Blk:=fun r=>((ow 0 r.length),[(ob 2 r)])
def g97_E (a:(List (Int × Str))):List TV:=[(.vs (rows a))]
theorem g97_run (a_a:List (Int × Str)) :callFn (X g97_S) g97_tf (g97_E a_a) [] = (laws_toPutS a_a).map g97_O:=by
  rw [callFn_eq]
  simp (maxSteps:=2000000) (maxDischargeDepth:=8) -implicitDefEqProofs [g97_tf,laws_toPutS,g97_E,mksliceV_typed (z:=((0,([]:Str)):Int × Str)) (zs:=[(.int .i64 0),(.str [])]) rfl (by decide)] <;> (try simp only [map_to_bind,some_elim,g97_O])
def g97_r:Rule:=RlO g97_E (fun a=>laws_toPutS a) g97_O
theorem g97_ok:RuleOk Tryz.prog 45 g97_r:=ok_rlo (S:=g97_S) (tf:=g97_tf) (SysOk.on ⟨g109_ok,trivial⟩ trivial) (trE_ok (ks:=[[0,3,4]]) Tryz.func45 (by kernel_rfl)) fun a=>g97_run a
@[simp] theorem g97_app (y0):g97_r [(.vs (rows y0))] = (laws_toPutS y0).map g97_O :=
  RlO_app (enc:=g97_E) (by intro a b h; simp [g97_E,Prod.ext_iff] at h ⊢; simp [h]) y0
/-! laws.toDisk -/
def g98_tf:TFn:=⟨(sq [bx 1 0,oo 2 (.alloc [.nils,.nils,(.int .i64 0),(.bool false)])] [1,2] (sq [oo 3 (.alloc [.nils,.nils,(.int .i64 0),(.bool false)])] [1,2,3] (sq [fa 4 0 1,ld 5 4,ca 6 44 [.t 5],fa 7 0 3,⟨none,none,(.store 1 (.t 7) (.t 6))⟩] [1,2,3] (sq [fa 8 1 1,ld 9 8,ca 10 45 [.t 9],fa 11 1 3,⟨none,none,(.store 1 (.t 11) (.t 10))⟩] [1,2,3] (sq [fa 12 2 1,ld 13 12,fa 14 2 3,⟨none,none,(.store 1 (.t 14) (.t 13))⟩] [1,2,3] (sq [fa 15 3 1,ld 16 15,fa 17 3 3,⟨none,none,(.store 1 (.t 17) (.t 16))⟩] [2,3] (.seq (.ops [ln 18 4 3,⟨none,none,(.store 4 (.t 2) (.t 18))⟩]) (.keep (kp [(2,0)] [(1,2),(3,1),(4,1)] 0) .ret)))))))),[.cell 2 (some 4)]⟩
abbrev g98_S:=Sys.on [(44,g59_r),(45,g97_r)] []
def laws_toDisk (a_a:K0):Option (K0):=(laws_toStringS a_a.1).bind fun r1=>(laws_toPutS a_a.2.1).bind fun r2=>some ((r1,r2,a_a.2.2.1,a_a.2.2.2))
@[simp] def g98_O:(K0) → TV × List Blk:=fun r=>((.agg [(ow 1 r.1.length),(ow 2 r.2.1.length),(.int .i64 r.2.2.1),(.bool r.2.2.2)]),[(.live 4 [[(ow 1 r.1.length),(ow 2 r.2.1.length),(.int .i64 r.2.2.1),(.bool r.2.2.2)]]),(ob 1 r.1),(ob 2 r.2.1)])
def g98_E (a:K0):List TV:=[(.agg [(.vs (rows a.1)),(.vs (rows a.2.1)),(.int .i64 a.2.2.1),(.bool a.2.2.2)])]
theorem g98_run (a_a:K0) :callFn (X g98_S) g98_tf (g98_E a_a) [] = (laws_toDisk a_a).map g98_O:=by
  rw [callFn_eq]
  simp (maxSteps:=2000000) (maxDischargeDepth:=8) -implicitDefEqProofs [g98_tf,laws_toDisk,g98_E] <;> (try simp only [map_to_bind,some_elim,g98_O])
def g98_r:Rule:=RlO g98_E (fun a=>laws_toDisk a) g98_O
theorem g98_ok:RuleOk Tryz.prog 17 g98_r:=ok_rlo (S:=g98_S) (tf:=g98_tf) (SysOk.on ⟨g59_ok,g97_ok,trivial⟩ trivial) (trE_ok (ks:=[]) Tryz.func17 (by kernel_rfl)) fun a=>g98_run a
@[simp] theorem g98_app (y0 y1 y2 y3):g98_r [(.agg [(.vs (rows y0)),(.vs (rows y1)),(.int .i64 y2),(.bool y3)])] = (laws_toDisk ((y0,y1,y2,y3))).map g98_O :=
  RlO_app (enc:=g98_E) (by intro a b h; simp [g98_E,Prod.ext_iff] at h ⊢; simp [h]) ((y0,y1,y2,y3))
/-! laws.toSuper -/
def g81_tf:TFn:=⟨(sq [bx 1 0,oo 2 (.alloc [(.int .i64 0),(.int .i64 0),(.int .i64 0),(.int .i64 0)])] [1,2] (sq [oo 3 (.alloc [(.int .i64 0),(.int .i64 0),(.int .i64 0),(.int .i64 0)])] [1,2,3] (sq [fa 4 0 1,ld 5 4,fa 6 0 3,⟨none,none,(.store 1 (.t 6) (.t 5))⟩] [1,2,3] (sq [fa 7 1 1,ld 8 7,fa 9 1 3,⟨none,none,(.store 1 (.t 9) (.t 8))⟩] [1,2,3] (sq [fa 10 2 1,ld 11 10,fa 12 2 3,⟨none,none,(.store 1 (.t 12) (.t 11))⟩] [1,2,3] (sq [fa 13 3 1,ld 14 13,fa 15 3 3,⟨none,none,(.store 1 (.t 15) (.t 14))⟩] [2,3] (.seq (.ops [ln 16 4 3,⟨none,none,(.store 4 (.t 2) (.t 16))⟩]) (.keep (kp [(2,0)] [(1,0)] 0) .ret)))))))),[.cell 2 (some 4)]⟩
abbrev g81_S:=Sys.on [] []
def laws_toSuper (a_a:Int × Int × Int × Int):Option ((Int × Int × Int × Int)):=some a_a
@[simp] def g81_O:((Int × Int × Int × Int)) → TV × List Blk:=fun r=>((.agg [(.int .i64 r.1),(.int .i64 r.2.1),(.int .i64 r.2.2.1),(.int .i64 r.2.2.2)]),[(.live 4 [[(.int .i64 r.1),(.int .i64 r.2.1),(.int .i64 r.2.2.1),(.int .i64 r.2.2.2)]])])
def g81_E (a:(Int × Int × Int × Int)):List TV:=[(.agg [(.int .i64 a.1),(.int .i64 a.2.1),(.int .i64 a.2.2.1),(.int .i64 a.2.2.2)])]
theorem g81_run (a_a:Int × Int × Int × Int) :callFn (X g81_S) g81_tf (g81_E a_a) [] = (laws_toSuper a_a).map g81_O:=by
  rw [callFn_eq]
  simp (maxSteps:=2000000) (maxDischargeDepth:=8) -implicitDefEqProofs [g81_tf,laws_toSuper,g81_E] <;> (try simp only [map_to_bind,some_elim,g81_O])
def g81_r:Rule:=RlO g81_E (fun a=>laws_toSuper a) g81_O
theorem g81_ok:RuleOk Tryz.prog 18 g81_r:=ok_rlo (S:=g81_S) (tf:=g81_tf) (SysOk.on trivial trivial) (trE_ok (ks:=[]) Tryz.func18 (by kernel_rfl)) fun a=>g81_run a
@[simp] theorem g81_app (y0 y1 y2 y3):g81_r [(.agg [(.int .i64 y0),(.int .i64 y1),(.int .i64 y2),(.int .i64 y3)])] = (laws_toSuper ((y0,y1,y2,y3))).map g81_O :=
  RlO_app (enc:=g81_E) (by intro a b h; simp [g81_E,Prod.ext_iff] at h ⊢; simp [h]) ((y0,y1,y2,y3))
/-! laws.toPage -/
def g99_tf:TFn:=⟨(sq [bx 1 0,oo 2 (.alloc [(.int .i64 0),(.str [])])] [1,2] (sq [oo 3 (.alloc [(.int .i64 0),(.str [])])] [1,2,3] (sq [fa 4 0 1,ld 5 4,fa 6 0 3,⟨none,none,(.store 1 (.t 6) (.t 5))⟩] [1,2,3] (sq [fa 7 1 1,ld 8 7,fa 9 1 3,⟨none,none,(.store 1 (.t 9) (.t 8))⟩] [2,3] (.seq (.ops [ln 10 2 3,⟨none,none,(.store 2 (.t 2) (.t 10))⟩]) (.keep (kp [(2,0)] [(1,0)] 0) .ret)))))),[.cell 2 (some 2)]⟩
abbrev g99_S:=Sys.on [] []
def laws_toPage (a_a:Int × Str):Option ((Int × Str)):=some a_a
@[simp] def g99_O:((Int × Str)) → TV × List Blk:=fun r=>((.agg [(.int .i64 r.1),(.str r.2)]),[(.live 2 [[(.int .i64 r.1),(.str r.2)]])])
def g99_E (a:(Int × Str)):List TV:=[(.agg [(.int .i64 a.1),(.str a.2)])]
theorem g99_run (a_a:Int × Str) :callFn (X g99_S) g99_tf (g99_E a_a) [] = (laws_toPage a_a).map g99_O:=by
  rw [callFn_eq]
  simp (maxSteps:=2000000) (maxDischargeDepth:=8) -implicitDefEqProofs [g99_tf,laws_toPage,g99_E] <;> (try simp only [map_to_bind,some_elim,g99_O])
def g99_r:Rule:=RlO g99_E (fun a=>laws_toPage a) g99_O
theorem g99_ok:RuleOk Tryz.prog 46 g99_r:=ok_rlo (S:=g99_S) (tf:=g99_tf) (SysOk.on trivial trivial) (trE_ok (ks:=[]) Tryz.func46 (by kernel_rfl)) fun a=>g99_run a
@[simp] theorem g99_app (y0 y1):g99_r [(.agg [(.int .i64 y0),(.str y1)])] = (laws_toPage ((y0,y1))).map g99_O :=
  RlO_app (enc:=g99_E) (by intro a b h; simp [g99_E,Prod.ext_iff] at h ⊢; simp [h]) ((y0,y1))
/-! laws.toPageS -/
def g82l1_cb:TC:=(.seq (sq [mo 8 4,mo 9 0,le 10 9,bn 11 .lss (.t 8) (.t 10)] [0,3,4,11] (.cond (.t 11) .skip (.keep (kp [(3,1)] [(0,1)] 0) (.exit 0)))) (.trim [0,3,4] (.seq (.block 1 (.ops [mo 14 3,mo 15 4,mo 16 0,mo 17 4,ia 18 2 16 17,ln 19 2 18,ca 20 46 [.t 19],ia 21 2 14 15,⟨none,none,(.store 2 (.t 21) (.t 20))⟩])) (.trim [0,3,4] (.after (.ops [mo 12 4,bn 13 .add (.t 12) (ki 1),mo 4 13]) (kp [(0,0),(3,1),(4,0)] [(0,1)] 0))))))
def g82l1_c:TC:=.loop [0,3,4] g82l1_cb
def g82_tf:TFn:=⟨(sq [mk 2 (.c .nils)] [0] (sq [mo 5 0,le 6 5,oo 7 (.mkslice 24 [(.int .i64 0),(.str [])] (.t 6) (.t 6)),mo 3 7] [0,3] (.seq (sq [mk 4 (ki 0)] [0,3,4] (.block 0 (.keep (kp [(0,0),(3,1),(4,0)] [(0,1)] 0) g82l1_c))) (.trim [3] (.seq (.ops [mo 22 3,mo 2 22]) (.keep (kp [(2,1)] [(0,1)] 0) .ret)))))),[.t 2]⟩
abbrev g82_S:=Sys.on [(46,g99_r)] []
@[reducible,simp] def g82l1_F:((List (Int × Str))) → Out:=(fun t=>(.ext 0,[(3,(ow 0 t.length))],[(ob 2 t)]))
def laws_toPageS_l1_b (v2:List (Int × Str)) (v3:List (Int × Str)) (v4:Int):Option (((List (Int × Str)) × Int) ⊕ ((List (Int × Str)))):=if v4 < (v2.length:Int) then if 0 ≤ v4 then (v2[(v4).toNat]?).bind fun x5=>(laws_toPage x5).bind fun r6=>if 0 ≤ v4 ∧ v4 < ((v3.length:Nat):Int) then (v3[(v4).toNat]?).bind fun x7=>some (.inl ((v3.set (v4).toNat (r6.1,r6.2)),(IntKind.i64.wrap (v4 + 1)))) else none else none else some (.inr v3)
theorem g82l1_b_eq  (v2:List (Int × Str)) (v3:List (Int × Str)) (v4:Int):X g82_S g82l1_cb (keepEnv [0,3,4] [(0,(.vs (rows v2))),(3,(ow 0 v3.length)),(4,(.int .i64 v4))]) [(ob 2 v3)] = (laws_toPageS_l1_b v2 v3 v4).map (Sum.elim (fun s=>(TX.nrm,[(0,(.vs (rows v2))),(3,(ow 0 s.1.length)),(4,(.int .i64 s.2))],[(ob 2 s.1)])) g82l1_F):=by
  simp (maxSteps:=2000000) (maxDischargeDepth:=8) -implicitDefEqProofs [g82l1_cb,laws_toPageS_l1_b,mksliceV_typed (z:=((0,([]:Str)):Int × Str)) (zs:=[(.int .i64 0),(.str [])]) rfl (by decide)] <;> (try simp only [map_to_bind,some_elim,g82l1_F])
def laws_toPageS_l1 (v2:List (Int × Str)) (s:(List (Int × Str)) × Int):Option ((List (Int × Str))):=loopO (fun s=>laws_toPageS_l1_b v2 s.1 s.2) s
@[simp] theorem g82l1_eq (y0)(y1:List (Int × Str))(y2){n1:Nat}(h1:n1 = y1.length):X g82_S g82l1_c [(0,(.vs (rows y0))),(3,(ow 0 n1)),(4,(.int .i64 y2))] [(ob 2 y1)] = (laws_toPageS_l1 y0 (y1,y2)).map g82l1_F:=by
  subst h1
  exact loop_X _ _ _ _ (by intro r; first | (simp; done) | (rcases r with r | r <;> simp; done) | (rcases r with r | r | r <;> simp; done) | (rcases r with r | r | r | r <;> simp)) (fun s=>g82l1_b_eq  y0 s.1 s.2) (y1,y2)
def laws_toPageS (a_a:List (Int × Str)):Option ((List (Int × Str))):=(mkL 24 ((a_a.length:Int)) ((a_a.length:Int)) ((0,([]:Str)):Int × Str)).bind fun l1=>(laws_toPageS_l1 a_a ((l1,0))).bind fun r8=>some r8
@[simp] def g82_O:((List (Int × Str))) → TV × List Blk:=fun r=>((ow 0 r.length),[(ob 2 r)])
def g82_E (a:(List (Int × Str))):List TV:=[(.vs (rows a))]
theorem g82_run (a_a:List (Int × Str)) :callFn (X g82_S) g82_tf (g82_E a_a) [] = (laws_toPageS a_a).map g82_O:=by
  rw [callFn_eq]
  simp (maxSteps:=2000000) (maxDischargeDepth:=8) -implicitDefEqProofs [g82_tf,laws_toPageS,g82_E,mksliceV_typed (z:=((0,([]:Str)):Int × Str)) (zs:=[(.int .i64 0),(.str [])]) rfl (by decide)] <;> (try simp only [map_to_bind,some_elim,g82_O])
def g82_r:Rule:=RlO g82_E (fun a=>laws_toPageS a) g82_O
theorem g82_ok:RuleOk Tryz.prog 19 g82_r:=ok_rlo (S:=g82_S) (tf:=g82_tf) (SysOk.on ⟨g99_ok,trivial⟩ trivial) (trE_ok (ks:=[[0,3,4]]) Tryz.func19 (by kernel_rfl)) fun a=>g82_run a
@[simp] theorem g82_app (y0):g82_r [(.vs (rows y0))] = (laws_toPageS y0).map g82_O :=
  RlO_app (enc:=g82_E) (by intro a b h; simp [g82_E,Prod.ext_iff] at h ⊢; simp [h]) y0
/-! laws.toPager -/
def g83_tf:TFn:=⟨(sq [bx 1 0,oo 2 (.alloc [.nils,.nils,(.int .i64 0),(.bool false),(.int .i64 0),(.int .i64 0),(.int .i64 0),(.int .i64 0),(.int .i64 0),(.int .i64 0),.nils,.nils])] [1,2] (sq [oo 3 (.alloc [.nils,.nils,(.int .i64 0),(.bool false),(.int .i64 0),(.int .i64 0),(.int .i64 0),(.int .i64 0),(.int .i64 0),(.int .i64 0),.nils,.nils])] [1,2,3] (sq [fa 4 0 1,ln 5 4 4,ca 6 17 [.t 5],fa 7 0 3,⟨none,none,(.store 4 (.t 7) (.t 6))⟩] [1,2,3] (sq [fa 8 4 1,ln 9 4 8,ca 10 18 [.t 9],fa 11 4 3,⟨none,none,(.store 4 (.t 11) (.t 10))⟩] [1,2,3] (sq [fa 12 8 1,ld 13 12,fa 14 8 3,⟨none,none,(.store 1 (.t 14) (.t 13))⟩] [1,2,3] (sq [fa 15 9 1,ld 16 15,fa 17 9 3,⟨none,none,(.store 1 (.t 17) (.t 16))⟩] [1,2,3] (sq [fa 18 10 1,ld 19 18,ca 20 19 [.t 19],fa 21 10 3,⟨none,none,(.store 1 (.t 21) (.t 20))⟩] [1,2,3] (sq [fa 22 11 1,ld 23 22,ca 24 19 [.t 23],fa 25 11 3,⟨none,none,(.store 1 (.t 25) (.t 24))⟩] [2,3] (.seq (.ops [ln 26 12 3,⟨none,none,(.store 12 (.t 2) (.t 26))⟩]) (.keep (kp [(2,0)] [(1,2),(4,1),(5,1),(7,1),(8,1)] 0) .ret)))))))))),[.cell 2 (some 12)]⟩
abbrev g83_S:=Sys.on [(17,g98_r),(18,g81_r),(19,g82_r)] []
def laws_toPager (a_a:K1):Option (K1):=(laws_toDisk a_a.1).bind fun r1=>(laws_toSuper a_a.2.1).bind fun r2=>(laws_toPageS a_a.2.2.2.2.1).bind fun r3=>(laws_toPageS a_a.2.2.2.2.2).bind fun r4=>some ((r1,r2,a_a.2.2.1,a_a.2.2.2.1,r3,r4))
@[simp] def g83_O:(K1) → TV × List Blk:=fun r=>((.agg [(ow 1 r.1.1.length),(ow 2 r.1.2.1.length),(.int .i64 r.1.2.2.1),(.bool r.1.2.2.2),(.int .i64 r.2.1.1),(.int .i64 r.2.1.2.1),(.int .i64 r.2.1.2.2.1),(.int .i64 r.2.1.2.2.2),(.int .i64 r.2.2.1),(.int .i64 r.2.2.2.1),(ow 3 r.2.2.2.2.1.length),(ow 4 r.2.2.2.2.2.length)]),[(.live 12 [[(ow 1 r.1.1.length),(ow 2 r.1.2.1.length),(.int .i64 r.1.2.2.1),(.bool r.1.2.2.2),(.int .i64 r.2.1.1),(.int .i64 r.2.1.2.1),(.int .i64 r.2.1.2.2.1),(.int .i64 r.2.1.2.2.2),(.int .i64 r.2.2.1),(.int .i64 r.2.2.2.1),(ow 3 r.2.2.2.2.1.length),(ow 4 r.2.2.2.2.2.length)]]),(ob 1 r.1.1),(ob 2 r.1.2.1),(ob 2 r.2.2.2.2.1),(ob 2 r.2.2.2.2.2)])
def g83_E (a:K1):List TV:=[(.agg [(.vs (rows a.1.1)),(.vs (rows a.1.2.1)),(.int .i64 a.1.2.2.1),(.bool a.1.2.2.2),(.int .i64 a.2.1.1),(.int .i64 a.2.1.2.1),(.int .i64 a.2.1.2.2.1),(.int .i64 a.2.1.2.2.2),(.int .i64 a.2.2.1),(.int .i64 a.2.2.2.1),(.vs (rows a.2.2.2.2.1)),(.vs (rows a.2.2.2.2.2))])]
theorem g83_run (a_a:K1) :callFn (X g83_S) g83_tf (g83_E a_a) [] = (laws_toPager a_a).map g83_O:=by
  rw [callFn_eq]
  simp (maxSteps:=2000000) (maxDischargeDepth:=8) -implicitDefEqProofs [g83_tf,laws_toPager,g83_E] <;> (try simp only [map_to_bind,some_elim,g83_O])
def g83_r:Rule:=RlO g83_E (fun a=>laws_toPager a) g83_O
theorem g83_ok:RuleOk Tryz.prog 6 g83_r:=ok_rlo (S:=g83_S) (tf:=g83_tf) (SysOk.on ⟨g98_ok,g81_ok,g82_ok,trivial⟩ trivial) (trE_ok (ks:=[]) Tryz.func6 (by kernel_rfl)) fun a=>g83_run a
@[simp] theorem g83_app (y0 y1 y2 y3 y4 y5 y6 y7 y8 y9 y10 y11):g83_r [(.agg [(.vs (rows y0)),(.vs (rows y1)),(.int .i64 y2),(.bool y3),(.int .i64 y4),(.int .i64 y5),(.int .i64 y6),(.int .i64 y7),(.int .i64 y8),(.int .i64 y9),(.vs (rows y10)),(.vs (rows y11))])] = (laws_toPager (((y0,y1,y2,y3),(y4,y5,y6,y7),y8,y9,y10,y11))).map g83_O :=
  RlO_app (enc:=g83_E) (by intro a b h; simp [g83_E,Prod.ext_iff] at h ⊢; simp [h]) (((y0,y1,y2,y3),(y4,y5,y6,y7),y8,y9,y10,y11))
/-! spec.l00In -/
def g110_tf:TFn:=⟨(sq [mk 6 (kb false)] [0,1,2] (.seq (.after (.ops [mo 7 0,mo 8 1,bn 9 .geq (.t 7) (.t 8),mo 10 9,⟨(some 11),(some (10,true)),(.mv (.t 0))⟩,⟨(some 12),(some (10,true)),(.mv (.t 2))⟩,⟨(some 13),(some (10,true)),(.bin .num .leq (.t 11) (.t 12))⟩,pk 14 (.t 10) (.t 13) (kb false),mo 6 14]) (kp [(6,0)] [] 0)) (.keep (kp [(6,0)] [] 0) .ret))),[.t 6]⟩
abbrev g110_S:=Sys.on [] []
def spec_l00In (a_n:Int) (a_low:Int) (a_high:Int):Option (Bool):=if a_n ≥ a_low then some ((decide (a_n ≤ a_high))) else some false
@[simp] def g110_O:Bool → TV × List Blk:=fun r=>((.bool r),[])
def g110_E (a:Int × Int × Int):List TV:=[(.int .i64 a.1),(.int .i64 a.2.1),(.int .i64 a.2.2)]
theorem g110_run (a_n:Int) (a_low:Int) (a_high:Int) :callFn (X g110_S) g110_tf (g110_E (a_n,a_low,a_high)) [] = (spec_l00In a_n a_low a_high).map g110_O:=by
  rw [callFn_eq]
  simp (maxSteps:=2000000) (maxDischargeDepth:=8) -implicitDefEqProofs [g110_tf,spec_l00In,g110_E] <;> (try simp only [map_to_bind,some_elim,g110_O])
def g110_r:Rule:=RlO g110_E (fun a=>spec_l00In a.1 a.2.1 a.2.2) g110_O
theorem g110_ok:RuleOk Tryz.prog 35 g110_r:=ok_rlo (S:=g110_S) (tf:=g110_tf) (SysOk.on trivial trivial) (trE_ok (ks:=[]) Tryz.func35 (by kernel_rfl)) fun a=>g110_run a.1 a.2.1 a.2.2
@[simp] theorem g110_app (y0 y1 y2):g110_r [(.int .i64 y0),(.int .i64 y1),(.int .i64 y2)] = (spec_l00In y0 y1 y2).map g110_O :=
  RlO_app (enc:=g110_E) (by intro a b h; simp [g110_E,Prod.ext_iff] at h ⊢; simp [h]) (y0,y1,y2)
/-! spec.l09Ok -/
def g111l1_cb:TC:=(.seq (sq [mo 30 4,mo 31 0,nk 32 31,fa 33 0 32,ld 34 33,le 35 34,bn 36 .lss (.t 30) (.t 35)] [0,3,4,36] (.cond (.t 36) .skip (.keep (kp [(0,0),(3,0)] [] 0) (.exit 0)))) (.trim [0,3,4] (.seq (.block 1 (sq [mo 39 0,nk 40 39,fa 41 0 40,ld 42 41,mo 43 4,ia 44 1 42 43,ld 45 44,oo 46 (.len true (.t 45)),bn 47 .neq (.t 46) (ki 64)] [0,3,4,47] (.cond (.t 47) (.seq (.ops [mk 2 (kb false)]) (.keep (kp [(2,0)] [] 0) .ret)) .skip))) (.trim [0,3,4] (.after (.ops [mo 37 4,bn 38 .add (.t 37) (ki 1),mo 4 38]) (kp [(0,0),(3,0),(4,0)] [] 0))))))
def g111l1_c:TC:=.loop [0,3,4] g111l1_cb
def g111l2_cb:TC:=(.seq (sq [mo 48 5,mo 49 0,nk 50 49,fa 51 1 50,ld 52 51,le 53 52,bn 54 .lss (.t 48) (.t 53)] [0,3,5,54] (.cond (.t 54) .skip (.keep (kp [] [] 0) (.exit 2)))) (.trim [0,3,5] (.seq (.block 3 (sq [mo 57 0,nk 58 57,fa 59 1 58,ld 60 59,mo 61 5,ia 62 2 60 61,fa 63 0 62,ld 64 63,mo 65 3,bn 66 .sub (.t 65) (ki 1),ca 67 35 [.t 64,ki 0,.t 66],nt 68 67,mo 69 68,⟨(some 70),(some (69,false)),(.mv (.t 0))⟩,⟨(some 71),(some (69,false)),(.nilchk (.t 70))⟩,⟨(some 72),(some (69,false)),(.faddr 1 (.t 71))⟩,⟨(some 73),(some (69,false)),(.load none (.t 72))⟩,⟨(some 74),(some (69,false)),(.mv (.t 5))⟩,⟨(some 75),(some (69,false)),(.iaddr 2 (.t 73) (.t 74))⟩,⟨(some 76),(some (69,false)),(.faddr 1 (.t 75))⟩,⟨(some 77),(some (69,false)),(.load none (.t 76))⟩,⟨(some 78),(some (69,false)),(.len true (.t 77))⟩,⟨(some 79),(some (69,false)),(.bin .num .neq (.t 78) (ki 64))⟩,pk 80 (.t 69) (kb true) (.t 79)] [0,3,5,80] (.cond (.t 80) (.seq (.ops [mk 2 (kb false)]) (.keep (kp [(2,0)] [] 0) .ret)) .skip))) (.trim [0,3,5] (.after (.ops [mo 55 5,bn 56 .add (.t 55) (ki 1),mo 5 56]) (kp [(0,0),(3,0),(5,0)] [] 0))))))
def g111l2_c:TC:=.loop [0,3,5] g111l2_cb
def g111_tf:TFn:=⟨(sq [mk 2 (kb false)] [0] (sq [mo 6 0,nk 7 6,fa 8 0 7,ld 9 8,le 10 9,mo 3 10] [0,3] (.seq (sq [mo 11 3,ca 12 35 [.t 11,ki 16,ki 256],nt 13 12,mo 14 13,⟨(some 15),(some (14,false)),(.mv (.t 0))⟩,⟨(some 16),(some (14,false)),(.nilchk (.t 15))⟩,⟨(some 17),(some (14,false)),(.faddr 1 (.t 16))⟩,⟨(some 18),(some (14,false)),(.load none (.t 17))⟩,⟨(some 19),(some (14,false)),(.len false (.t 18))⟩,⟨(some 20),(some (14,false)),(.bin .num .gtr (.t 19) (ki 600))⟩,pk 21 (.t 14) (kb true) (.t 20),mo 22 21,⟨(some 23),(some (22,false)),(.mv (.t 0))⟩,⟨(some 24),(some (22,false)),(.nilchk (.t 23))⟩,⟨(some 25),(some (22,false)),(.faddr 2 (.t 24))⟩,⟨(some 26),(some (22,false)),(.load none (.t 25))⟩,⟨(some 27),(some (22,false)),(.call 35 [.t 26,(ki (-1)),ki 100000])⟩,⟨(some 28),(some (22,false)),(.un .not (.t 27))⟩,pk 29 (.t 22) (kb true) (.t 28)] [0,3,29] (.cond (.t 29) (.seq (.ops [mk 2 (kb false)]) (.keep (kp [(2,0)] [] 0) .ret)) .skip)) (.trim [0,3] (.seq (sq [mk 4 (ki 0)] [0,3,4] (.block 0 (.keep (kp [(0,0),(3,0),(4,0)] [] 0) g111l1_c))) (.trim [0,3] (.seq (sq [mk 5 (ki 0)] [0,3,5] (.block 2 (.keep (kp [(0,0),(3,0),(5,0)] [] 0) g111l2_c))) (.trim [] (.seq (.ops [mk 2 (kb true)]) (.keep (kp [(2,0)] [] 0) .ret)))))))))),[.t 2]⟩
abbrev g111_S:=Sys.on [(35,g110_r)] []
def spec_l09Ok_l1_b (v3:List Str) (v4:List (Int × Str)) (v5:Int) (v6:Bool) (v7:Int) (v8:Int):Option ((Int) ⊕ ((List Str × (List (Int × Str)) × Int × Bool × Int) ⊕ (Bool))):=if v8 < (v3.length:Int) then if 0 ≤ v8 then (v3[(v8).toNat]?).bind fun x9=>if ¬((x9.length:Int) = 64) then some (.inr (.inr false)) else some (.inl ((IntKind.i64.wrap (v8 + 1)))) else none else some (.inr (.inl (v3,v4,v5,v6,v7)))
theorem g111l1_b_eq (q0:List TV) (v3:List Str) (v4:List (Int × Str)) (v5:Int) (v6:Bool) (v7:Int) (v8:Int):X g111_S g111l1_cb (keepEnv [0,3,4] [(0,(.vp ((.vs (rows v3))::(.vs (rows v4))::(.int .i64 v5)::(.bool v6)::q0))),(3,(.int .i64 v7)),(4,(.int .i64 v8))]) [] = (spec_l09Ok_l1_b v3 v4 v5 v6 v7 v8).map (Sum.elim (fun s=>(TX.nrm,[(0,(.vp ((.vs (rows v3))::(.vs (rows v4))::(.int .i64 v5)::(.bool v6)::q0))),(3,(.int .i64 v7)),(4,(.int .i64 s))],[])) (Sum.elim (fun t=>(.ext 0,[(0,(.vp ((.vs (rows t.1))::(.vs (rows t.2.1))::(.int .i64 t.2.2.1)::(.bool t.2.2.2.1)::q0))),(3,(.int .i64 t.2.2.2.2))],[])) (fun t=>(.ret,[(2,(.bool t))],[])))):=by
  simp (maxSteps:=2000000) (maxDischargeDepth:=8) -implicitDefEqProofs [g111l1_cb,spec_l09Ok_l1_b] <;> (try simp only [map_to_bind,some_elim])
def spec_l09Ok_l1 (v3:List Str) (v4:List (Int × Str)) (v5:Int) (v6:Bool) (v7:Int) (s:Int):Option ((List Str × (List (Int × Str)) × Int × Bool × Int) ⊕ (Bool)):=loopO (fun s=>spec_l09Ok_l1_b v3 v4 v5 v6 v7 s) s
@[simp] theorem g111l1_eq (q0:List TV)(y0 y1 y2 y3 y4 y5):X g111_S g111l1_c [(0,(.vp ((.vs (rows y0))::(.vs (rows y1))::(.int .i64 y2)::(.bool y3)::q0))),(3,(.int .i64 y4)),(4,(.int .i64 y5))] [] = (spec_l09Ok_l1 y0 y1 y2 y3 y4 y5).map (Sum.elim (fun t=>(.ext 0,[(0,(.vp ((.vs (rows t.1))::(.vs (rows t.2.1))::(.int .i64 t.2.2.1)::(.bool t.2.2.2.1)::q0))),(3,(.int .i64 t.2.2.2.2))],[])) (fun t=>(.ret,[(2,(.bool t))],[]))):=by
  exact loop_X _ _ _ _ (by intro r; first | (simp; done) | (rcases r with r | r <;> simp; done) | (rcases r with r | r | r <;> simp; done) | (rcases r with r | r | r | r <;> simp)) (fun s=>g111l1_b_eq q0 y0 y1 y2 y3 y4 s) y5
@[reducible,simp] def g111l2_F:((Unit) ⊕ (Bool)) → Out:=(Sum.elim (fun t=>(.ext 2,[],[])) (fun t=>(.ret,[(2,(.bool t))],[])))
def spec_l09Ok_l2_b (v13:List Str) (v14:List (Int × Str)) (v15:Int) (v16:Bool) (v17:Int) (v18:Int):Option ((Int) ⊕ ((Unit) ⊕ (Bool))):=if v18 < (v14.length:Int) then if 0 ≤ v18 then (v14[(v18).toNat]?).bind fun x19=>(spec_l00In x19.1 0 ((IntKind.i64.wrap (v17 - 1)))).bind fun r20=>if ¬(r20 = true) then some (.inr (.inr false)) else if 0 ≤ v18 then (v14[(v18).toNat]?).bind fun x21=>if ¬((x21.2.length:Int) = 64) then some (.inr (.inr false)) else some (.inl ((IntKind.i64.wrap (v18 + 1)))) else none else none else some (.inr (.inl ()))
theorem g111l2_b_eq (q0:List TV) (v13:List Str) (v14:List (Int × Str)) (v15:Int) (v16:Bool) (v17:Int) (v18:Int):X g111_S g111l2_cb (keepEnv [0,3,5] [(0,(.vp ((.vs (rows v13))::(.vs (rows v14))::(.int .i64 v15)::(.bool v16)::q0))),(3,(.int .i64 v17)),(5,(.int .i64 v18))]) [] = (spec_l09Ok_l2_b v13 v14 v15 v16 v17 v18).map (Sum.elim (fun s=>(TX.nrm,[(0,(.vp ((.vs (rows v13))::(.vs (rows v14))::(.int .i64 v15)::(.bool v16)::q0))),(3,(.int .i64 v17)),(5,(.int .i64 s))],[])) g111l2_F):=by
  simp (maxSteps:=2000000) (maxDischargeDepth:=8) -implicitDefEqProofs [g111l2_cb,spec_l09Ok_l2_b] <;> (try simp only [map_to_bind,some_elim,g111l2_F])
def spec_l09Ok_l2 (v13:List Str) (v14:List (Int × Str)) (v15:Int) (v16:Bool) (v17:Int) (s:Int):Option ((Unit) ⊕ (Bool)):=loopO (fun s=>spec_l09Ok_l2_b v13 v14 v15 v16 v17 s) s
@[simp] theorem g111l2_eq (q0:List TV)(y0 y1 y2 y3 y4 y5):X g111_S g111l2_c [(0,(.vp ((.vs (rows y0))::(.vs (rows y1))::(.int .i64 y2)::(.bool y3)::q0))),(3,(.int .i64 y4)),(5,(.int .i64 y5))] [] = (spec_l09Ok_l2 y0 y1 y2 y3 y4 y5).map g111l2_F:=by
  exact loop_X _ _ _ _ (by intro r; first | (simp; done) | (rcases r with r | r <;> simp; done) | (rcases r with r | r | r <;> simp; done) | (rcases r with r | r | r | r <;> simp)) (fun s=>g111l2_b_eq q0 y0 y1 y2 y3 y4 s) y5
def spec_l09Ok (a_d:K0):Option (Bool):=(spec_l00In ((a_d.1.length:Int)) 16 256).bind fun r1=>if ¬(r1 = true) then some false else if (a_d.2.1.length:Int) > 600 then some false else (spec_l00In a_d.2.2.1 ((-1)) 100000).bind fun r2=>if ¬(r2 = true) then some false else (spec_l09Ok_l1 a_d.1 a_d.2.1 a_d.2.2.1 a_d.2.2.2 ((a_d.1.length:Int)) 0).bind fun r10=>Sum.elim (fun u11=>(spec_l09Ok_l2 u11.1 u11.2.1 u11.2.2.1 u11.2.2.2.1 u11.2.2.2.2 0).bind fun r22=>Sum.elim (fun u23=>some true) (fun u24=>some u24) r22) (fun u12=>some u12) r10
@[simp] def g111_O:Bool → TV × List Blk:=fun r=>((.bool r),[])
def g111_E (a:K0 × List TV):List TV:=[(.vp ((.vs (rows a.1.1))::(.vs (rows a.1.2.1))::(.int .i64 a.1.2.2.1)::(.bool a.1.2.2.2)::a.2))]
theorem g111_run (a_d:K0) (q0:List TV):callFn (X g111_S) g111_tf (g111_E (a_d,q0)) [] = (spec_l09Ok a_d).map g111_O:=by
  rw [callFn_eq]
  simp (maxSteps:=2000000) (maxDischargeDepth:=8) -implicitDefEqProofs [g111_tf,spec_l09Ok,g111_E] <;> (try simp only [map_to_bind,some_elim,g111_O])
def g111_r:Rule:=RlO g111_E (fun a=>spec_l09Ok a.1) g111_O
theorem g111_ok:RuleOk Tryz.prog 33 g111_r:=ok_rlo (S:=g111_S) (tf:=g111_tf) (SysOk.on ⟨g110_ok,trivial⟩ trivial) (trE_ok (ks:=[[0,3,4],[0,3,5]]) Tryz.func33 (by kernel_rfl)) fun a=>g111_run a.1 a.2
@[simp] theorem g111_app (y0 y1 y2 y3)(q0:List TV):g111_r [(.vp ((.vs (rows y0))::(.vs (rows y1))::(.int .i64 y2)::(.bool y3)::q0))] = (spec_l09Ok ((y0,y1,y2,y3))).map g111_O :=
  RlO_app (enc:=g111_E) (by intro a b h; simp [g111_E,Prod.ext_iff] at h ⊢; simp [h]) ((y0,y1,y2,y3),q0)
/-! spec.ValidSuper -/
def g49_tf:TFn:=⟨(sq [bx 1 0,mk 2 (kb false)] [1] (.seq (.after (.ops [fa 3 0 1,ld 4 3,ca 5 35 [.t 4,ki 16,ki 256],mo 6 5,⟨(some 7),(some (6,true)),(.faddr 1 (.t 1))⟩,⟨(some 8),(some (6,true)),(.load none (.t 7))⟩,⟨(some 9),(some (6,true)),(.call 35 [.t 8,ki 8,ki 64])⟩,pk 10 (.t 6) (.t 9) (kb false),mo 11 10,⟨(some 12),(some (11,true)),(.faddr 1 (.t 1))⟩,⟨(some 13),(some (11,true)),(.load none (.t 12))⟩,⟨(some 14),(some (11,true)),(.faddr 0 (.t 1))⟩,⟨(some 15),(some (11,true)),(.load none (.t 14))⟩,⟨(some 16),(some (11,true)),(.bin .num .sub (.t 15) (ki 4))⟩,⟨(some 17),(some (11,true)),(.bin .num .leq (.t 13) (.t 16))⟩,pk 18 (.t 11) (.t 17) (kb false),mo 19 18,⟨(some 20),(some (19,true)),(.faddr 2 (.t 1))⟩,⟨(some 21),(some (19,true)),(.load none (.t 20))⟩,⟨(some 22),(some (19,true)),(.call 35 [.t 21,ki 0,ki 1000000000000])⟩,pk 23 (.t 19) (.t 22) (kb false),mo 24 23,⟨(some 25),(some (24,true)),(.faddr 3 (.t 1))⟩,⟨(some 26),(some (24,true)),(.load none (.t 25))⟩,⟨(some 27),(some (24,true)),(.call 35 [.t 26,ki 0,ki 1000000000000])⟩,pk 28 (.t 24) (.t 27) (kb false),mo 2 28]) (kp [(2,0)] [] 0)) (.keep (kp [(2,0)] [] 0) .ret))),[.t 2]⟩
abbrev g49_S:=Sys.on [(35,g110_r)] []
def spec_ValidSuper (a_s:Int × Int × Int × Int):Option (Bool):=(spec_l00In a_s.1 16 256).bind fun r1=>if r1 = true then (spec_l00In a_s.2.1 8 64).bind fun r2=>if r2 = true then if a_s.2.1 ≤ (IntKind.i64.wrap (a_s.1 - 4)) then (spec_l00In a_s.2.2.1 0 1000000000000).bind fun r3=>if r3 = true then (spec_l00In a_s.2.2.2 0 1000000000000).bind fun r4=>some r4 else some false else some false else some false else some false
@[simp] def g49_O:Bool → TV × List Blk:=fun r=>((.bool r),[])
def g49_E (a:(Int × Int × Int × Int)):List TV:=[(.agg [(.int .i64 a.1),(.int .i64 a.2.1),(.int .i64 a.2.2.1),(.int .i64 a.2.2.2)])]
theorem g49_run (a_s:Int × Int × Int × Int) :callFn (X g49_S) g49_tf (g49_E a_s) [] = (spec_ValidSuper a_s).map g49_O:=by
  rw [callFn_eq]
  simp (maxSteps:=2000000) (maxDischargeDepth:=8) -implicitDefEqProofs [g49_tf,spec_ValidSuper,g49_E] <;> (try simp only [map_to_bind,some_elim,g49_O])
def g49_r:Rule:=RlO g49_E (fun a=>spec_ValidSuper a) g49_O
theorem g49_ok:RuleOk Tryz.prog 34 g49_r:=ok_rlo (S:=g49_S) (tf:=g49_tf) (SysOk.on ⟨g110_ok,trivial⟩ trivial) (trE_ok (ks:=[]) Tryz.func34 (by kernel_rfl)) fun a=>g49_run a
@[simp] theorem g49_app (y0 y1 y2 y3):g49_r [(.agg [(.int .i64 y0),(.int .i64 y1),(.int .i64 y2),(.int .i64 y3)])] = (spec_ValidSuper ((y0,y1,y2,y3))).map g49_O :=
  RlO_app (enc:=g49_E) (by intro a b h; simp [g49_E,Prod.ext_iff] at h ⊢; simp [h]) ((y0,y1,y2,y3))
/-! spec.l11Pages -/
def g71l1_cb:TC:=(.seq (sq [mo 7 3,mo 8 0,le 9 8,bn 10 .lss (.t 7) (.t 9)] [0,3,10] (.cond (.t 10) .skip (.keep (kp [] [] 0) (.exit 0)))) (.trim [0,3] (.seq (.block 1 (.seq (.draw [([],mo 13 0),([],mo 14 3),([0,1],ia 15 2 13 14),([0,1,2],fa 16 0 15),([0,1,2,3],ld 17 16),([0,1,2,3,4],ca 18 35 [.t 17,ki 0,ki 255]),([0,1,2,3,4,5],nt 19 18),([0,1,2,3,4,5,6],mo 20 19),([0,1,2,3,4,5,6,7],⟨(some 21),(some (20,false)),(.mv (.t 0))⟩),([0,1,2,3,4,5,6,7],⟨(some 22),(some (20,false)),(.mv (.t 3))⟩),([0,1,2,3,4,5,6,7,8,9],⟨(some 23),(some (20,false)),(.iaddr 2 (.t 21) (.t 22))⟩),([0,1,2,3,4,5,6,7,8,9,10],⟨(some 24),(some (20,false)),(.faddr 1 (.t 23))⟩),([0,1,2,3,4,5,6,7,8,9,10,11],⟨(some 25),(some (20,false)),(.load none (.t 24))⟩),([0,1,2,3,4,5,6,7,8,9,10,11,12],⟨(some 26),(some (20,false)),(.len true (.t 25))⟩),([0,1,2,3,4,5,6,7,8,9,10,11,12,13],⟨(some 27),(some (20,false)),(.bin .num .neq (.t 26) (ki 64))⟩),([0,1,2,3,4,5,6,7,8,9,10,11,12,13,14],pk 28 (.t 20) (kb true) (.t 27)),([0,1,2,3,4,5,6,7,8,9,10,11,12,13,14,15],mo 29 28),([0,1,2,3,4,5,6,7,8,9,10,11,12,13,14,15,16],⟨(some 30),(some (29,false)),(.mv (.t 3))⟩),([0,1,2,3,4,5,6,7,8,9,10,11,12,13,14,15,16,17],⟨(some 31),(some (29,false)),(.bin .num .gtr (.t 30) (ki 0))⟩),([0,1,2,3,4,5,6,7,8,9,10,11,12,13,14,15,16,17,18],⟨(some 32),(some (29,false)),(.mv (.t 31))⟩),([0,1,2,3,4,5,6,7,8,9,10,11,12,13,14,15,16,17,18,19],⟨(some 33),(some (32,true)),(.mv (.t 0))⟩),([0,1,2,3,4,5,6,7,8,9,10,11,12,13,14,15,16,17,18,19],⟨(some 34),(some (32,true)),(.mv (.t 3))⟩),([0,1,2,3,4,5,6,7,8,9,10,11,12,13,14,15,16,17,18,19,21],⟨(some 35),(some (32,true)),(.bin .num .sub (.t 34) (ki 1))⟩),([0,1,2,3,4,5,6,7,8,9,10,11,12,13,14,15,16,17,18,19,20,21,22],⟨(some 36),(some (32,true)),(.iaddr 2 (.t 33) (.t 35))⟩),([0,1,2,3,4,5,6,7,8,9,10,11,12,13,14,15,16,17,18,19,20,21,22,23],⟨(some 37),(some (32,true)),(.faddr 0 (.t 36))⟩),([0,1,2,3,4,5,6,7,8,9,10,11,12,13,14,15,16,17,18,19,20,21,22,23,24],⟨(some 38),(some (32,true)),(.load none (.t 37))⟩),([0,1,2,3,4,5,6,7,8,9,10,11,12,13,14,15,16,17,18,19],⟨(some 39),(some (32,true)),(.mv (.t 0))⟩),([0,1,2,3,4,5,6,7,8,9,10,11,12,13,14,15,16,17,18,19],⟨(some 40),(some (32,true)),(.mv (.t 3))⟩),([0,1,2,3,4,5,6,7,8,9,10,11,12,13,14,15,16,17,18,19,26,27],⟨(some 41),(some (32,true)),(.iaddr 2 (.t 39) (.t 40))⟩),([0,1,2,3,4,5,6,7,8,9,10,11,12,13,14,15,16,17,18,19,26,27,28],⟨(some 42),(some (32,true)),(.faddr 0 (.t 41))⟩),([0,1,2,3,4,5,6,7,8,9,10,11,12,13,14,15,16,17,18,19,26,27,28,29],⟨(some 43),(some (32,true)),(.load none (.t 42))⟩)] [⟨(some 44),(some (32,true)),(.bin .num .geq (.t 38) (.t 43))⟩,⟨(some 45),(some (29,false)),(.pick (.t 32) (.t 44) (kb false))⟩,pk 46 (.t 29) (kb true) (.t 45)]) (.trim [0,3,46] (.cond (.t 46) (.seq (.ops [mk 2 (kb false)]) (.keep (kp [(2,0)] [] 0) .ret)) (.keep (kp [(0,0),(3,0)] [] 0) .skip))))) (.trim [0,3] (.after (.ops [mo 11 3,bn 12 .add (.t 11) (ki 1),mo 3 12]) (kp [(0,0),(3,0)] [] 0))))))
def g71l1_c:TC:=.loop [0,3] g71l1_cb
def g71_tf:TFn:=⟨(sq [mk 2 (kb false)] [0] (.seq (sq [mo 4 0,le 5 4,bn 6 .gtr (.t 5) (ki 256)] [0,6] (.cond (.t 6) (.seq (.ops [mk 2 (kb false)]) (.keep (kp [(2,0)] [] 0) .ret)) .skip)) (.trim [0] (.seq (sq [mk 3 (ki 0)] [0,3] (.block 0 (.keep (kp [(0,0),(3,0)] [] 0) g71l1_c))) (.trim [] (.seq (.ops [mk 2 (kb true)]) (.keep (kp [(2,0)] [] 0) .ret))))))),[.t 2]⟩
abbrev g71_S:=Sys.on [(35,g110_r)] []
@[reducible,simp] def g71l1_F:((Unit) ⊕ (Bool)) → Out:=(Sum.elim (fun t=>(.ext 0,[],[])) (fun t=>(.ret,[(2,(.bool t))],[])))
def spec_l11Pages_l1_b (v1:List (Int × Str)) (v2:Int):Option ((Int) ⊕ ((Unit) ⊕ (Bool))):=if v2 < (v1.length:Int) then if 0 ≤ v2 then (v1[(v2).toNat]?).bind fun x3=>(spec_l00In x3.1 0 255).bind fun r4=>if ¬(r4 = true) then some (.inr (.inr false)) else if 0 ≤ v2 then (v1[(v2).toNat]?).bind fun x5=>if ¬((x5.2.length:Int) = 64) then some (.inr (.inr false)) else if v2 > 0 then if 0 ≤ (IntKind.i64.wrap (v2 - 1)) then (v1[((IntKind.i64.wrap (v2 - 1))).toNat]?).bind fun x6=>if 0 ≤ v2 then (v1[(v2).toNat]?).bind fun x7=>if x6.1 ≥ x7.1 then some (.inr (.inr false)) else some (.inl ((IntKind.i64.wrap (v2 + 1)))) else none else none else some (.inl ((IntKind.i64.wrap (v2 + 1)))) else none else none else some (.inr (.inl ()))
theorem g71l1_b_eq  (v1:List (Int × Str)) (v2:Int):X g71_S g71l1_cb (keepEnv [0,3] [(0,(.vs (rows v1))),(3,(.int .i64 v2))]) [] = (spec_l11Pages_l1_b v1 v2).map (Sum.elim (fun s=>(TX.nrm,[(0,(.vs (rows v1))),(3,(.int .i64 s))],[])) g71l1_F):=by
  simp (maxSteps:=2000000) (maxDischargeDepth:=8) -implicitDefEqProofs [g71l1_cb,spec_l11Pages_l1_b] <;> (try simp only [map_to_bind,some_elim,g71l1_F])
def spec_l11Pages_l1 (v1:List (Int × Str)) (s:Int):Option ((Unit) ⊕ (Bool)):=loopO (fun s=>spec_l11Pages_l1_b v1 s) s
@[simp] theorem g71l1_eq (y0 y1):X g71_S g71l1_c [(0,(.vs (rows y0))),(3,(.int .i64 y1))] [] = (spec_l11Pages_l1 y0 y1).map g71l1_F:=by
  exact loop_X _ _ _ _ (by intro r; first | (simp; done) | (rcases r with r | r <;> simp; done) | (rcases r with r | r | r <;> simp; done) | (rcases r with r | r | r | r <;> simp)) (fun s=>g71l1_b_eq  y0 s) y1
def spec_l11Pages (a_list:List (Int × Str)):Option (Bool):=if (a_list.length:Int) > 256 then some false else (spec_l11Pages_l1 a_list 0).bind fun r8=>Sum.elim (fun u9=>some true) (fun u10=>some u10) r8
@[simp] def g71_O:Bool → TV × List Blk:=fun r=>((.bool r),[])
def g71_E (a:(List (Int × Str))):List TV:=[(.vs (rows a))]
theorem g71_run (a_list:List (Int × Str)) :callFn (X g71_S) g71_tf (g71_E a_list) [] = (spec_l11Pages a_list).map g71_O:=by
  rw [callFn_eq]
  simp (maxSteps:=2000000) (maxDischargeDepth:=8) -implicitDefEqProofs [g71_tf,spec_l11Pages,g71_E] <;> (try simp only [map_to_bind,some_elim,g71_O])
def g71_r:Rule:=RlO g71_E (fun a=>spec_l11Pages a) g71_O
theorem g71_ok:RuleOk Tryz.prog 36 g71_r:=ok_rlo (S:=g71_S) (tf:=g71_tf) (SysOk.on ⟨g110_ok,trivial⟩ trivial) (trE_ok (ks:=[[0,3],[31]]) Tryz.func36 (by kernel_rfl)) fun a=>g71_run a
@[simp] theorem g71_app (y0):g71_r [(.vs (rows y0))] = (spec_l11Pages y0).map g71_O :=
  RlO_app (enc:=g71_E) (by intro a b h; simp [g71_E,Prod.ext_iff] at h ⊢; simp [h]) y0
/-! spec.l10Area -/
def g84_tf:TFn:=⟨(sq [bx 1 0,mk 2 (ki 0)] [1] (.seq (.ops [fa 3 1 1,ld 4 3,bn 5 .add (ki 2) (.t 4),mo 2 5]) (.keep (kp [(2,0)] [] 0) .ret))),[.t 2]⟩
abbrev g84_S:=Sys.on [] []
def spec_l10Area (a_s:Int × Int × Int × Int):Option (Int):=some ((IntKind.i64.wrap (2 + a_s.2.1)))
@[simp] def g84_O:Int → TV × List Blk:=fun r=>((.int .i64 r),[])
def g84_E (a:(Int × Int × Int × Int)):List TV:=[(.agg [(.int .i64 a.1),(.int .i64 a.2.1),(.int .i64 a.2.2.1),(.int .i64 a.2.2.2)])]
theorem g84_run (a_s:Int × Int × Int × Int) :callFn (X g84_S) g84_tf (g84_E a_s) [] = (spec_l10Area a_s).map g84_O:=by
  rw [callFn_eq]
  simp (maxSteps:=2000000) (maxDischargeDepth:=8) -implicitDefEqProofs [g84_tf,spec_l10Area,g84_E] <;> (try simp only [map_to_bind,some_elim,g84_O])
def g84_r:Rule:=RlO g84_E (fun a=>spec_l10Area a) g84_O
theorem g84_ok:RuleOk Tryz.prog 69 g84_r:=ok_rlo (S:=g84_S) (tf:=g84_tf) (SysOk.on trivial trivial) (trE_ok (ks:=[]) Tryz.func69 (by kernel_rfl)) fun a=>g84_run a
@[simp] theorem g84_app (y0 y1 y2 y3):g84_r [(.agg [(.int .i64 y0),(.int .i64 y1),(.int .i64 y2),(.int .i64 y3)])] = (spec_l10Area ((y0,y1,y2,y3))).map g84_O :=
  RlO_app (enc:=g84_E) (by intro a b h; simp [g84_E,Prod.ext_iff] at h ⊢; simp [h]) ((y0,y1,y2,y3))
/-! spec.l11Within -/
def g60l1_cb:TC:=(.seq (sq [mo 6 5,mo 7 1,le 8 7,bn 9 .lss (.t 6) (.t 8)] [1,2,5,9] (.cond (.t 9) .skip (.keep (kp [] [] 0) (.exit 0)))) (.trim [1,2,5] (.seq (.block 1 (.seq (.draw [([],mo 12 1),([],mo 13 5),([0,1],ia 14 2 12 13),([0,1,2],fa 15 0 14),([0,1,2,3],ld 16 15),([],ln 17 4 2),([5],ca 18 69 [.t 17]),([],fa 19 0 2),([7],ld 20 19),([7,8],bn 21 .sub (.t 20) (ki 1))] [ca 22 35 [.t 16,.t 18,.t 21],nt 23 22]) (.trim [1,2,5,23] (.cond (.t 23) (.seq (.ops [mk 4 (kb false)]) (.keep (kp [(4,0)] [] 0) .ret)) .skip)))) (.trim [1,2,5] (.after (.ops [mo 10 5,bn 11 .add (.t 10) (ki 1),mo 5 11]) (kp [(1,0),(2,0),(5,0)] [(0,0)] 0))))))
def g60l1_c:TC:=.loop [1,2,5] g60l1_cb
def g60_tf:TFn:=⟨(sq [bx 2 0,mk 4 (kb false)] [1,2] (.seq (sq [mk 5 (ki 0)] [1,2,5] (.block 0 (.keep (kp [(1,0),(2,0),(5,0)] [(0,0)] 0) g60l1_c))) (.trim [] (.seq (.ops [mk 4 (kb true)]) (.keep (kp [(4,0)] [] 0) .ret))))),[.t 4]⟩
abbrev g60_S:=Sys.on [(69,g84_r),(35,g110_r)] []
@[reducible,simp] def g60l1_F:((Unit) ⊕ (Bool)) → Out:=(Sum.elim (fun t=>(.ext 0,[],[])) (fun t=>(.ret,[(4,(.bool t))],[])))
def spec_l11Within_l1_b (v1:List (Int × Str)) (v2:Int × Int × Int × Int) (v3:Int):Option ((Int) ⊕ ((Unit) ⊕ (Bool))):=if v3 < (v1.length:Int) then if 0 ≤ v3 then (v1[(v3).toNat]?).bind fun x4=>(spec_l10Area v2).bind fun r5=>(spec_l00In x4.1 r5 ((IntKind.i64.wrap (v2.1 - 1)))).bind fun r6=>if ¬(r6 = true) then some (.inr (.inr false)) else some (.inl ((IntKind.i64.wrap (v3 + 1)))) else none else some (.inr (.inl ()))
theorem g60l1_b_eq  (v1:List (Int × Str)) (v2:Int × Int × Int × Int) (v3:Int):X g60_S g60l1_cb (keepEnv [1,2,5] [(1,(.vs (rows v1))),(2,(.ptr 0 0 0)),(5,(.int .i64 v3))]) [(.live 4 [[(.int .i64 v2.1),(.int .i64 v2.2.1),(.int .i64 v2.2.2.1),(.int .i64 v2.2.2.2)]])] = (spec_l11Within_l1_b v1 v2 v3).map (Sum.elim (fun s=>(TX.nrm,[(1,(.vs (rows v1))),(2,(.ptr 0 0 0)),(5,(.int .i64 s))],[(.live 4 [[(.int .i64 v2.1),(.int .i64 v2.2.1),(.int .i64 v2.2.2.1),(.int .i64 v2.2.2.2)]])])) g60l1_F):=by
  simp (maxSteps:=2000000) (maxDischargeDepth:=8) -implicitDefEqProofs [g60l1_cb,spec_l11Within_l1_b] <;> (try simp only [map_to_bind,some_elim,g60l1_F])
def spec_l11Within_l1 (v1:List (Int × Str)) (v2:Int × Int × Int × Int) (s:Int):Option ((Unit) ⊕ (Bool)):=loopO (fun s=>spec_l11Within_l1_b v1 v2 s) s
@[simp] theorem g60l1_eq (y0 y1 y2 y3 y4 y5):X g60_S g60l1_c [(1,(.vs (rows y0))),(2,(.ptr 0 0 0)),(5,(.int .i64 y5))] [(.live 4 [[(.int .i64 y1),(.int .i64 y2),(.int .i64 y3),(.int .i64 y4)]])] = (spec_l11Within_l1 y0 ((y1,y2,y3,y4)) y5).map g60l1_F:=by
  exact loop_X _ _ _ _ (by intro r; first | (simp; done) | (rcases r with r | r <;> simp; done) | (rcases r with r | r | r <;> simp; done) | (rcases r with r | r | r | r <;> simp)) (fun s=>g60l1_b_eq  y0 ((y1,y2,y3,y4)) s) y5
def spec_l11Within (a_s:Int × Int × Int × Int) (a_list:List (Int × Str)):Option (Bool):=(spec_l11Within_l1 a_list a_s 0).bind fun r7=>Sum.elim (fun u8=>some true) (fun u9=>some u9) r7
@[simp] def g60_O:Bool → TV × List Blk:=fun r=>((.bool r),[])
def g60_E (a:(Int × Int × Int × Int) × (List (Int × Str))):List TV:=[(.agg [(.int .i64 a.1.1),(.int .i64 a.1.2.1),(.int .i64 a.1.2.2.1),(.int .i64 a.1.2.2.2)]),(.vs (rows a.2))]
theorem g60_run (a_s:Int × Int × Int × Int) (a_list:List (Int × Str)) :callFn (X g60_S) g60_tf (g60_E (a_s,a_list)) [] = (spec_l11Within a_s a_list).map g60_O:=by
  rw [callFn_eq]
  simp (maxSteps:=2000000) (maxDischargeDepth:=8) -implicitDefEqProofs [g60_tf,spec_l11Within,g60_E] <;> (try simp only [map_to_bind,some_elim,g60_O])
def g60_r:Rule:=RlO g60_E (fun a=>spec_l11Within a.1 a.2) g60_O
theorem g60_ok:RuleOk Tryz.prog 37 g60_r:=ok_rlo (S:=g60_S) (tf:=g60_tf) (SysOk.on ⟨g84_ok,g110_ok,trivial⟩ trivial) (trE_ok (ks:=[[1,2,5],[10]]) Tryz.func37 (by kernel_rfl)) fun a=>g60_run a.1 a.2
@[simp] theorem g60_app (y0 y1 y2 y3 y4):g60_r [(.agg [(.int .i64 y0),(.int .i64 y1),(.int .i64 y2),(.int .i64 y3)]),(.vs (rows y4))] = (spec_l11Within ((y0,y1,y2,y3)) y4).map g60_O :=
  RlO_app (enc:=g60_E) (by intro a b h; simp [g60_E,Prod.ext_iff] at h ⊢; simp [h]) ((y0,y1,y2,y3),y4)
/-! spec.l11Table -/
def g72_tf:TFn:=⟨(sq [mk 2 (ki 0)] [0] (.seq (.ops [mo 3 0,bn 4 .mul (ki 2) (.t 3),bn 5 .add (.t 4) (ki 64),bn 6 .sub (.t 5) (ki 1),bn 7 .quo (.t 6) (ki 64),mo 2 7]) (.keep (kp [(2,0)] [] 0) .ret))),[.t 2]⟩
abbrev g72_S:=Sys.on [] []
def spec_l11Table (a_pages:Int):Option (Int):=some ((IntKind.i64.wrap (Int.tdiv ((IntKind.i64.wrap ((IntKind.i64.wrap ((IntKind.i64.wrap (2 * a_pages)) + 64)) - 1))) 64)))
@[simp] def g72_O:Int → TV × List Blk:=fun r=>((.int .i64 r),[])
def g72_E (a:Int):List TV:=[(.int .i64 a)]
theorem g72_run (a_pages:Int) :callFn (X g72_S) g72_tf (g72_E a_pages) [] = (spec_l11Table a_pages).map g72_O:=by
  rw [callFn_eq]
  simp (maxSteps:=2000000) (maxDischargeDepth:=8) -implicitDefEqProofs [g72_tf,spec_l11Table,g72_E] <;> (try simp only [map_to_bind,some_elim,g72_O])
def g72_r:Rule:=RlO g72_E (fun a=>spec_l11Table a) g72_O
theorem g72_ok:RuleOk Tryz.prog 93 g72_r:=ok_rlo (S:=g72_S) (tf:=g72_tf) (SysOk.on trivial trivial) (trE_ok (ks:=[]) Tryz.func93 (by kernel_rfl)) fun a=>g72_run a
@[simp] theorem g72_app (y0):g72_r [(.int .i64 y0)] = (spec_l11Table y0).map g72_O :=
  RlO_app (enc:=g72_E) (by intro a b h; simp [g72_E,Prod.ext_iff] at h ⊢; simp [h]) y0
/-! spec.l11Blocks -/
def g61_tf:TFn:=⟨(sq [mk 2 (ki 0)] [0] (.seq (.ops [mo 3 0,ca 4 93 [.t 3],bn 5 .add (ki 1) (.t 4),mo 6 0,bn 7 .add (.t 5) (.t 6),mo 2 7]) (.keep (kp [(2,0)] [] 0) .ret))),[.t 2]⟩
abbrev g61_S:=Sys.on [(93,g72_r)] []
def spec_l11Blocks (a_pages:Int):Option (Int):=(spec_l11Table a_pages).bind fun r1=>some ((IntKind.i64.wrap ((IntKind.i64.wrap (1 + r1)) + a_pages)))
@[simp] def g61_O:Int → TV × List Blk:=fun r=>((.int .i64 r),[])
def g61_E (a:Int):List TV:=[(.int .i64 a)]
theorem g61_run (a_pages:Int) :callFn (X g61_S) g61_tf (g61_E a_pages) [] = (spec_l11Blocks a_pages).map g61_O:=by
  rw [callFn_eq]
  simp (maxSteps:=2000000) (maxDischargeDepth:=8) -implicitDefEqProofs [g61_tf,spec_l11Blocks,g61_E] <;> (try simp only [map_to_bind,some_elim,g61_O])
def g61_r:Rule:=RlO g61_E (fun a=>spec_l11Blocks a) g61_O
theorem g61_ok:RuleOk Tryz.prog 70 g61_r:=ok_rlo (S:=g61_S) (tf:=g61_tf) (SysOk.on ⟨g72_ok,trivial⟩ trivial) (trE_ok (ks:=[]) Tryz.func70 (by kernel_rfl)) fun a=>g61_run a
@[simp] theorem g61_app (y0):g61_r [(.int .i64 y0)] = (spec_l11Blocks y0).map g61_O :=
  RlO_app (enc:=g61_E) (by intro a b h; simp [g61_E,Prod.ext_iff] at h ⊢; simp [h]) y0
/-! spec.l12Fits -/
def g85_tf:TFn:=⟨(sq [bx 2 0,mk 4 (kb false)] [1,2] (.seq (.after (.draw [([],mo 5 1),([0],bn 6 .eql (.t 5) (ki 0)),([0,1],mo 7 6),([0,1,2],⟨(some 8),(some (7,false)),(.mv (.t 1))⟩),([0,1,2,3],⟨(some 9),(some (7,false)),(.bin .num .leq (.t 8) (ki 60))⟩),([0,1,2,3,4],⟨(some 10),(some (7,false)),(.mv (.t 9))⟩),([0,1,2,3,4,5],⟨(some 11),(some (10,true)),(.mv (.t 1))⟩),([0,1,2,3,4,5,6],⟨(some 12),(some (10,true)),(.call 70 [.t 11])⟩),([0,1,2,3,4,5],⟨(some 13),(some (10,true)),(.faddr 1 (.t 2))⟩),([0,1,2,3,4,5,8],⟨(some 14),(some (10,true)),(.load none (.t 13))⟩)] [⟨(some 15),(some (10,true)),(.bin .num .leq (.t 12) (.t 14))⟩,⟨(some 16),(some (7,false)),(.pick (.t 10) (.t 15) (kb false))⟩,pk 17 (.t 7) (kb true) (.t 16),mo 4 17]) (kp [(4,0)] [] 0)) (.keep (kp [(4,0)] [] 0) .ret))),[.t 4]⟩
abbrev g85_S:=Sys.on [(70,g61_r)] []
def spec_l12Fits (a_s:Int × Int × Int × Int) (a_pages:Int):Option (Bool):=if a_pages = 0 then some true else if a_pages ≤ 60 then (spec_l11Blocks a_pages).bind fun r1=>some ((decide (r1 ≤ a_s.2.1))) else some false
@[simp] def g85_O:Bool → TV × List Blk:=fun r=>((.bool r),[])
def g85_E (a:(Int × Int × Int × Int) × Int):List TV:=[(.agg [(.int .i64 a.1.1),(.int .i64 a.1.2.1),(.int .i64 a.1.2.2.1),(.int .i64 a.1.2.2.2)]),(.int .i64 a.2)]
theorem g85_run (a_s:Int × Int × Int × Int) (a_pages:Int) :callFn (X g85_S) g85_tf (g85_E (a_s,a_pages)) [] = (spec_l12Fits a_s a_pages).map g85_O:=by
  rw [callFn_eq]
  simp (maxSteps:=2000000) (maxDischargeDepth:=8) -implicitDefEqProofs [g85_tf,spec_l12Fits,g85_E] <;> (try simp only [map_to_bind,some_elim,g85_O])
def g85_r:Rule:=RlO g85_E (fun a=>spec_l12Fits a.1 a.2) g85_O
theorem g85_ok:RuleOk Tryz.prog 38 g85_r:=ok_rlo (S:=g85_S) (tf:=g85_tf) (SysOk.on ⟨g61_ok,trivial⟩ trivial) (trE_ok (ks:=[[10]]) Tryz.func38 (by kernel_rfl)) fun a=>g85_run a.1 a.2
@[simp] theorem g85_app (y0 y1 y2 y3 y4):g85_r [(.agg [(.int .i64 y0),(.int .i64 y1),(.int .i64 y2),(.int .i64 y3)]),(.int .i64 y4)] = (spec_l12Fits ((y0,y1,y2,y3)) y4).map g85_O :=
  RlO_app (enc:=g85_E) (by intro a b h; simp [g85_E,Prod.ext_iff] at h ⊢; simp [h]) ((y0,y1,y2,y3),y4)
/-! spec.l12Ok -/
def g112p1_c:TC:=(.seq (.seq (.draw [([],mo 46 0),([0],nk 47 46),([0,1],fa 48 8 47),([0,1,2],ld 49 48),([],fa 50 2 3),([4],ld 51 50),([0,1,2,3,4,5],ca 52 35 [.t 49,.t 51,ki 1000000000000]),([0,1,2,3,4,5,6],nt 53 52),([0,1,2,3,4,5,6,7],mo 54 53),([0,1,2,3,4,5,6,7,8],⟨(some 55),(some (54,false)),(.mv (.t 0))⟩),([0,1,2,3,4,5,6,7,8,9],⟨(some 56),(some (54,false)),(.nilchk (.t 55))⟩),([0,1,2,3,4,5,6,7,8,9,10],⟨(some 57),(some (54,false)),(.faddr 9 (.t 56))⟩),([0,1,2,3,4,5,6,7,8,9,10,11],⟨(some 58),(some (54,false)),(.load none (.t 57))⟩),([0,1,2,3,4,5,6,7,8],⟨(some 59),(some (54,false)),(.faddr 1 (.t 3))⟩),([0,1,2,3,4,5,6,7,8,13],⟨(some 60),(some (54,false)),(.load none (.t 59))⟩),([0,1,2,3,4,5,6,7,8,9,10,11,12,13,14],⟨(some 61),(some (54,false)),(.call 35 [.t 58,ki 0,.t 60])⟩),([0,1,2,3,4,5,6,7,8,9,10,11,12,13,14,15],⟨(some 62),(some (54,false)),(.un .not (.t 61))⟩),([0,1,2,3,4,5,6,7,8,9,10,11,12,13,14,15,16],pk 63 (.t 54) (kb true) (.t 62)),([0,1,2,3,4,5,6,7,8,9,10,11,12,13,14,15,16,17],mo 64 63),([0,1,2,3,4,5,6,7,8,9,10,11,12,13,14,15,16,17,18],⟨(some 65),(some (64,false)),(.mv (.t 0))⟩),([0,1,2,3,4,5,6,7,8,9,10,11,12,13,14,15,16,17,18,19],⟨(some 66),(some (64,false)),(.nilchk (.t 65))⟩),([0,1,2,3,4,5,6,7,8,9,10,11,12,13,14,15,16,17,18,19,20],⟨(some 67),(some (64,false)),(.faddr 10 (.t 66))⟩),([0,1,2,3,4,5,6,7,8,9,10,11,12,13,14,15,16,17,18,19,20,21],⟨(some 68),(some (64,false)),(.load none (.t 67))⟩),([0,1,2,3,4,5,6,7,8,9,10,11,12,13,14,15,16,17,18,19,20,21,22],⟨(some 69),(some (64,false)),(.call 36 [.t 68])⟩),([0,1,2,3,4,5,6,7,8,9,10,11,12,13,14,15,16,17,18,19,20,21,22,23],⟨(some 70),(some (64,false)),(.un .not (.t 69))⟩),([0,1,2,3,4,5,6,7,8,9,10,11,12,13,14,15,16,17,18,19,20,21,22,23,24],pk 71 (.t 64) (kb true) (.t 70)),([0,1,2,3,4,5,6,7,8,9,10,11,12,13,14,15,16,17,18,19,20,21,22,23,24,25],mo 72 71),([0,1,2,3,4,5,6,7,8,9,10,11,12,13,14,15,16,17,18,19,20,21,22,23,24,25,26],⟨(some 73),(some (72,false)),(.mv (.t 0))⟩),([0,1,2,3,4,5,6,7,8,9,10,11,12,13,14,15,16,17,18,19,20,21,22,23,24,25,26,27],⟨(some 74),(some (72,false)),(.nilchk (.t 73))⟩),([0,1,2,3,4,5,6,7,8,9,10,11,12,13,14,15,16,17,18,19,20,21,22,23,24,25,26,27,28],⟨(some 75),(some (72,false)),(.faddr 11 (.t 74))⟩),([0,1,2,3,4,5,6,7,8,9,10,11,12,13,14,15,16,17,18,19,20,21,22,23,24,25,26,27,28,29],⟨(some 76),(some (72,false)),(.load none (.t 75))⟩),([0,1,2,3,4,5,6,7,8,9,10,11,12,13,14,15,16,17,18,19,20,21,22,23,24,25,26,27,28,29,30],⟨(some 77),(some (72,false)),(.call 36 [.t 76])⟩),([0,1,2,3,4,5,6,7,8,9,10,11,12,13,14,15,16,17,18,19,20,21,22,23,24,25,26,27,28,29,30,31],⟨(some 78),(some (72,false)),(.un .not (.t 77))⟩),([0,1,2,3,4,5,6,7,8,9,10,11,12,13,14,15,16,17,18,19,20,21,22,23,24,25,26,27,28,29,30,31,32],pk 79 (.t 72) (kb true) (.t 78)),([0,1,2,3,4,5,6,7,8,9,10,11,12,13,14,15,16,17,18,19,20,21,22,23,24,25,26,27,28,29,30,31,32,33],mo 80 79),([0,1,2,3,4,5,6,7,8,9,10,11,12,13,14,15,16,17,18,19,20,21,22,23,24,25,26,27,28,29,30,31,32,33,34],⟨(some 81),(some (80,false)),(.load (some 4) (.t 3))⟩),([0,1,2,3,4,5,6,7,8,9,10,11,12,13,14,15,16,17,18,19,20,21,22,23,24,25,26,27,28,29,30,31,32,33,34],⟨(some 82),(some (80,false)),(.mv (.t 0))⟩),([0,1,2,3,4,5,6,7,8,9,10,11,12,13,14,15,16,17,18,19,20,21,22,23,24,25,26,27,28,29,30,31,32,33,34,36],⟨(some 83),(some (80,false)),(.nilchk (.t 82))⟩),([0,1,2,3,4,5,6,7,8,9,10,11,12,13,14,15,16,17,18,19,20,21,22,23,24,25,26,27,28,29,30,31,32,33,34,36,37],⟨(some 84),(some (80,false)),(.faddr 10 (.t 83))⟩),([0,1,2,3,4,5,6,7,8,9,10,11,12,13,14,15,16,17,18,19,20,21,22,23,24,25,26,27,28,29,30,31,32,33,34,36,37,38],⟨(some 85),(some (80,false)),(.load none (.t 84))⟩),([0,1,2,3,4,5,6,7,8,9,10,11,12,13,14,15,16,17,18,19,20,21,22,23,24,25,26,27,28,29,30,31,32,33,34,35,36,37,38,39],⟨(some 86),(some (80,false)),(.call 37 [.t 81,.t 85])⟩),([0,1,2,3,4,5,6,7,8,9,10,11,12,13,14,15,16,17,18,19,20,21,22,23,24,25,26,27,28,29,30,31,32,33,34,35,36,37,38,39,40],⟨(some 87),(some (80,false)),(.un .not (.t 86))⟩),([0,1,2,3,4,5,6,7,8,9,10,11,12,13,14,15,16,17,18,19,20,21,22,23,24,25,26,27,28,29,30,31,32,33,34,35,36,37,38,39,40,41],pk 88 (.t 80) (kb true) (.t 87)),([0,1,2,3,4,5,6,7,8,9,10,11,12,13,14,15,16,17,18,19,20,21,22,23,24,25,26,27,28,29,30,31,32,33,34,35,36,37,38,39,40,41,42],mo 89 88),([0,1,2,3,4,5,6,7,8,9,10,11,12,13,14,15,16,17,18,19,20,21,22,23,24,25,26,27,28,29,30,31,32,33,34,35,36,37,38,39,40,41,42,43],⟨(some 90),(some (89,false)),(.load (some 4) (.t 3))⟩),([0,1,2,3,4,5,6,7,8,9,10,11,12,13,14,15,16,17,18,19,20,21,22,23,24,25,26,27,28,29,30,31,32,33,34,35,36,37,38,39,40,41,42,43],⟨(some 91),(some (89,false)),(.mv (.t 0))⟩),([0,1,2,3,4,5,6,7,8,9,10,11,12,13,14,15,16,17,18,19,20,21,22,23,24,25,26,27,28,29,30,31,32,33,34,35,36,37,38,39,40,41,42,43,45],⟨(some 92),(some (89,false)),(.nilchk (.t 91))⟩),([0,1,2,3,4,5,6,7,8,9,10,11,12,13,14,15,16,17,18,19,20,21,22,23,24,25,26,27,28,29,30,31,32,33,34,35,36,37,38,39,40,41,42,43,45,46],⟨(some 93),(some (89,false)),(.faddr 11 (.t 92))⟩),([0,1,2,3,4,5,6,7,8,9,10,11,12,13,14,15,16,17,18,19,20,21,22,23,24,25,26,27,28,29,30,31,32,33,34,35,36,37,38,39,40,41,42,43,45,46,47],⟨(some 94),(some (89,false)),(.load none (.t 93))⟩)] [⟨(some 95),(some (89,false)),(.call 37 [.t 90,.t 94])⟩,⟨(some 96),(some (89,false)),(.un .not (.t 95))⟩,pk 97 (.t 89) (kb true) (.t 96)]) (.trim [0,3,97] (.cond (.t 97) (.seq (.ops [mk 2 (kb false)]) (.keep (kp [(2,0)] [] 0) .ret)) .skip))) (.trim [0,3] (.seq (.draw [([],ln 98 4 3),([],mo 99 0),([1],nk 100 99),([1,2],fa 101 11 100),([1,2,3],ld 102 101),([1,2,3,4],le 103 102)] [ca 104 38 [.t 98,.t 103],mo 2 104]) (.keep (kp [(2,0)] [] 0) .ret))))
def g112_tf:TFn:=⟨(sq [mk 2 (kb false)] [0] (sq [mo 4 0,nk 5 4,fa 6 4 5,ln 7 4 6,oo 3 (.alloc [(.int .i64 0),(.int .i64 0),(.int .i64 0),(.int .i64 0)]),⟨none,none,(.store 4 (.t 3) (.t 7))⟩] [0,3] (.seq (.seq (.draw [([],mo 8 0),([0],nk 9 8),([0,1],fa 10 0 9),([0,1,2],ca 11 33 [.t 10]),([0,1,2,3],nt 12 11),([0,1,2,3,4],mo 13 12),([0,1,2,3,4,5],⟨(some 14),(some (13,false)),(.mv (.t 0))⟩),([0,1,2,3,4,5,6],⟨(some 15),(some (13,false)),(.nilchk (.t 14))⟩),([0,1,2,3,4,5,6,7],⟨(some 16),(some (13,false)),(.faddr 0 (.t 15))⟩),([0,1,2,3,4,5,6,7,8],⟨(some 17),(some (13,false)),(.faddr 1 (.t 16))⟩),([0,1,2,3,4,5,6,7,8,9],⟨(some 18),(some (13,false)),(.load none (.t 17))⟩),([0,1,2,3,4,5,6,7,8,9,10],⟨(some 19),(some (13,false)),(.len false (.t 18))⟩),([0,1,2,3,4,5,6,7,8,9,10,11],⟨(some 20),(some (13,false)),(.bin .num .gtr (.t 19) (ki 1))⟩),([0,1,2,3,4,5,6,7,8,9,10,11,12],⟨(some 21),(some (13,false)),(.mv (.t 20))⟩),([0,1,2,3,4,5,6,7,8,9,10,11,12,13],⟨(some 22),(some (21,true)),(.mv (.t 0))⟩),([0,1,2,3,4,5,6,7,8,9,10,11,12,13,14],⟨(some 23),(some (21,true)),(.nilchk (.t 22))⟩),([0,1,2,3,4,5,6,7,8,9,10,11,12,13,14,15],⟨(some 24),(some (21,true)),(.faddr 0 (.t 23))⟩),([0,1,2,3,4,5,6,7,8,9,10,11,12,13,14,15,16],⟨(some 25),(some (21,true)),(.faddr 3 (.t 24))⟩),([0,1,2,3,4,5,6,7,8,9,10,11,12,13,14,15,16,17],⟨(some 26),(some (21,true)),(.load none (.t 25))⟩),([0,1,2,3,4,5,6,7,8,9,10,11,12,13,14,15,16,17,18],⟨(some 27),(some (21,true)),(.un .not (.t 26))⟩),([0,1,2,3,4,5,6,7,8,9,10,11,12,13,14,15,16,17,18,19],⟨(some 28),(some (13,false)),(.pick (.t 21) (.t 27) (kb false))⟩),([0,1,2,3,4,5,6,7,8,9,10,11,12,13,14,15,16,17,18,19,20],pk 29 (.t 13) (kb true) (.t 28)),([0,1,2,3,4,5,6,7,8,9,10,11,12,13,14,15,16,17,18,19,20,21],mo 30 29),([0,1,2,3,4,5,6,7,8,9,10,11,12,13,14,15,16,17,18,19,20,21,22],⟨(some 31),(some (30,false)),(.load (some 4) (.t 3))⟩),([0,1,2,3,4,5,6,7,8,9,10,11,12,13,14,15,16,17,18,19,20,21,22,23],⟨(some 32),(some (30,false)),(.call 34 [.t 31])⟩),([0,1,2,3,4,5,6,7,8,9,10,11,12,13,14,15,16,17,18,19,20,21,22,23,24],⟨(some 33),(some (30,false)),(.un .not (.t 32))⟩),([0,1,2,3,4,5,6,7,8,9,10,11,12,13,14,15,16,17,18,19,20,21,22,23,24,25],pk 34 (.t 30) (kb true) (.t 33)),([0,1,2,3,4,5,6,7,8,9,10,11,12,13,14,15,16,17,18,19,20,21,22,23,24,25,26],mo 35 34),([0,1,2,3,4,5,6,7,8,9,10,11,12,13,14,15,16,17,18,19,20,21,22,23,24,25,26,27],⟨(some 36),(some (35,false)),(.faddr 0 (.t 3))⟩),([0,1,2,3,4,5,6,7,8,9,10,11,12,13,14,15,16,17,18,19,20,21,22,23,24,25,26,27,28],⟨(some 37),(some (35,false)),(.load none (.t 36))⟩),([0,1,2,3,4,5,6,7,8,9,10,11,12,13,14,15,16,17,18,19,20,21,22,23,24,25,26,27],⟨(some 38),(some (35,false)),(.mv (.t 0))⟩),([0,1,2,3,4,5,6,7,8,9,10,11,12,13,14,15,16,17,18,19,20,21,22,23,24,25,26,27,30],⟨(some 39),(some (35,false)),(.nilchk (.t 38))⟩),([0,1,2,3,4,5,6,7,8,9,10,11,12,13,14,15,16,17,18,19,20,21,22,23,24,25,26,27,30,31],⟨(some 40),(some (35,false)),(.faddr 0 (.t 39))⟩),([0,1,2,3,4,5,6,7,8,9,10,11,12,13,14,15,16,17,18,19,20,21,22,23,24,25,26,27,30,31,32],⟨(some 41),(some (35,false)),(.faddr 0 (.t 40))⟩),([0,1,2,3,4,5,6,7,8,9,10,11,12,13,14,15,16,17,18,19,20,21,22,23,24,25,26,27,30,31,32,33],⟨(some 42),(some (35,false)),(.load none (.t 41))⟩),([0,1,2,3,4,5,6,7,8,9,10,11,12,13,14,15,16,17,18,19,20,21,22,23,24,25,26,27,30,31,32,33,34],⟨(some 43),(some (35,false)),(.len false (.t 42))⟩)] [⟨(some 44),(some (35,false)),(.bin .num .neq (.t 37) (.t 43))⟩,pk 45 (.t 35) (kb true) (.t 44)]) (.trim [0,3,45] (.cond (.t 45) (.seq (.ops [mk 2 (kb false)]) (.keep (kp [(2,0)] [] 0) .ret)) (.keep (kp [(0,0),(3,0)] [(0,0)] 0) .skip)))) (.trim [0,3] g112p1_c)))),[.t 2]⟩
abbrev g112_S:=Sys.on [(33,g111_r),(34,g49_r),(35,g110_r),(36,g71_r),(37,g60_r),(38,g85_r)] []
@[reducible,simp] def g112p1_F:Bool → Out:=(fun t=>(.ret,[(2,(.bool t))],[]))
def spec_l12Ok_p1 (v4:List Str) (v5:List (Int × Str)) (v6:Int) (v7:Bool) (v8:Int) (v9:Int) (v10:Int) (v11:Int) (v12:Int) (v13:Int) (v14:List (Int × Str)) (v15:List (Int × Str)) (v16:Int × Int × Int × Int):Option (Bool):=(spec_l00In v12 v16.2.2.1 1000000000000).bind fun r17=>if ¬(r17 = true) then some false else (spec_l00In v13 0 v16.2.1).bind fun r18=>if ¬(r18 = true) then some false else (spec_l11Pages v14).bind fun r19=>if ¬(r19 = true) then some false else (spec_l11Pages v15).bind fun r20=>if ¬(r20 = true) then some false else (spec_l11Within v16 v14).bind fun r21=>if ¬(r21 = true) then some false else (spec_l11Within v16 v15).bind fun r22=>if ¬(r22 = true) then some false else (spec_l12Fits v16 ((v15.length:Int))).bind fun r23=>some r23
@[simp] theorem g112p1_eq (q0:List TV)(y0 y1 y2 y3 y4 y5 y6 y7 y8 y9 y10 y11 y12 y13 y14 y15):X g112_S g112p1_c [(0,(.vp ((.vs (rows y0))::(.vs (rows y1))::(.int .i64 y2)::(.bool y3)::(.int .i64 y4)::(.int .i64 y5)::(.int .i64 y6)::(.int .i64 y7)::(.int .i64 y8)::(.int .i64 y9)::(.vs (rows y10))::(.vs (rows y11))::q0))),(3,(.ptr 0 0 0))] [(.live 4 [[(.int .i64 y12),(.int .i64 y13),(.int .i64 y14),(.int .i64 y15)]])] = (spec_l12Ok_p1 y0 y1 y2 y3 y4 y5 y6 y7 y8 y9 y10 y11 ((y12,y13,y14,y15))).map g112p1_F:=by
  simp (maxSteps:=2000000) (maxDischargeDepth:=8) -implicitDefEqProofs [g112p1_c,spec_l12Ok_p1] <;> (try simp only [map_to_bind,some_elim,g112p1_F])
def spec_l12Ok (a_p:K1):Option (Bool):=(spec_l09Ok a_p.1).bind fun r1=>if ¬(r1 = true) then some false else if (a_p.1.2.1.length:Int) > 1 then if ¬(a_p.1.2.2.2 = true) then some false else (spec_ValidSuper a_p.2.1).bind fun r2=>if ¬(r2 = true) then some false else if ¬(a_p.2.1.1 = (a_p.1.1.length:Int)) then some false else (spec_l12Ok_p1 a_p.1.1 a_p.1.2.1 a_p.1.2.2.1 a_p.1.2.2.2 a_p.2.1.1 a_p.2.1.2.1 a_p.2.1.2.2.1 a_p.2.1.2.2.2 a_p.2.2.1 a_p.2.2.2.1 a_p.2.2.2.2.1 a_p.2.2.2.2.2 a_p.2.1).bind fun r24=>some r24 else (spec_ValidSuper a_p.2.1).bind fun r3=>if ¬(r3 = true) then some false else if ¬(a_p.2.1.1 = (a_p.1.1.length:Int)) then some false else (spec_l12Ok_p1 a_p.1.1 a_p.1.2.1 a_p.1.2.2.1 a_p.1.2.2.2 a_p.2.1.1 a_p.2.1.2.1 a_p.2.1.2.2.1 a_p.2.1.2.2.2 a_p.2.2.1 a_p.2.2.2.1 a_p.2.2.2.2.1 a_p.2.2.2.2.2 a_p.2.1).bind fun r25=>some r25
@[simp] def g112_O:Bool → TV × List Blk:=fun r=>((.bool r),[])
def g112_E (a:K1 × List TV):List TV:=[(.vp ((.vs (rows a.1.1.1))::(.vs (rows a.1.1.2.1))::(.int .i64 a.1.1.2.2.1)::(.bool a.1.1.2.2.2)::(.int .i64 a.1.2.1.1)::(.int .i64 a.1.2.1.2.1)::(.int .i64 a.1.2.1.2.2.1)::(.int .i64 a.1.2.1.2.2.2)::(.int .i64 a.1.2.2.1)::(.int .i64 a.1.2.2.2.1)::(.vs (rows a.1.2.2.2.2.1))::(.vs (rows a.1.2.2.2.2.2))::a.2))]
theorem g112_run (a_p:K1) (q0:List TV):callFn (X g112_S) g112_tf (g112_E (a_p,q0)) [] = (spec_l12Ok a_p).map g112_O:=by
  rw [callFn_eq]
  simp (maxSteps:=2000000) (maxDischargeDepth:=8) -implicitDefEqProofs [g112_tf,spec_l12Ok,g112_E] <;> (try simp only [map_to_bind,some_elim,g112_O])
def g112_r:Rule:=RlO g112_E (fun a=>spec_l12Ok a.1) g112_O
theorem g112_ok:RuleOk Tryz.prog 13 g112_r:=ok_rlo (S:=g112_S) (tf:=g112_tf) (SysOk.on ⟨g111_ok,g49_ok,g110_ok,g71_ok,g60_ok,g85_ok,trivial⟩ trivial) (trE_ok (ks:=[[36],[49],[6]]) Tryz.func13 (by kernel_rfl)) fun a=>g112_run a.1 a.2
@[simp] theorem g112_app (y0 y1 y2 y3 y4 y5 y6 y7 y8 y9 y10 y11)(q0:List TV):g112_r [(.vp ((.vs (rows y0))::(.vs (rows y1))::(.int .i64 y2)::(.bool y3)::(.int .i64 y4)::(.int .i64 y5)::(.int .i64 y6)::(.int .i64 y7)::(.int .i64 y8)::(.int .i64 y9)::(.vs (rows y10))::(.vs (rows y11))::q0))] = (spec_l12Ok (((y0,y1,y2,y3),(y4,y5,y6,y7),y8,y9,y10,y11))).map g112_O :=
  RlO_app (enc:=g112_E) (by intro a b h; simp [g112_E,Prod.ext_iff] at h ⊢; simp [h]) (((y0,y1,y2,y3),(y4,y5,y6,y7),y8,y9,y10,y11),q0)
/-! spec.l09Own -/
def g100_tf:TFn:=⟨(sq [oo 2 (.alloc [.nils,.nils,(.int .i64 0),(.bool false)])] [0,2] (.seq (.draw [([],oo 3 (.bslice [(.str [])] 0 [])),([],mo 4 0),([1],nk 5 4),([1,2],fa 6 0 5),([1,2,3],ld 7 6),([0,1,2,3,4],oo 8 (.append 9 1 16 (.t 3) (.t 7))),([],oo 9 (.bslice [(.int .i64 0),(.str [])] 0 [])),([],mo 10 0),([7],nk 11 10),([7,8],fa 12 1 11),([7,8,9],ld 13 12),([0,1,2,3,4,5,6,7,8,9,10],oo 14 (.append 96 2 24 (.t 9) (.t 13))),([],mo 15 0),([12],nk 16 15),([12,13],fa 17 2 16),([12,13,14],ld 18 17),([],mo 19 0),([16],nk 20 19),([16,17],fa 21 3 20),([16,17,18],ld 22 21)] [oo 23 (.build [.nils,.nils,(.int .i64 0),(.bool false)] [(0,1,(.t 8)),(1,1,(.t 14)),(2,1,(.t 18)),(3,1,(.t 22))]),⟨none,none,(.store 4 (.t 2) (.t 23))⟩]) (.keep (kp [(2,0)] [(0,2),(1,1),(2,1)] 0) .ret))),[.cell 2 (some 4)]⟩
abbrev g100_S:=Sys.on [] []
def spec_l09Own (a_d:K0):Option (K0):=(appL 16 ([]:List Str) a_d.1).bind fun l1=>(appL 24 ([]:List (Int × Str)) a_d.2.1).bind fun l2=>some ((l1,l2,a_d.2.2.1,a_d.2.2.2))
@[simp] def g100_O:(K0) → TV × List Blk:=fun r=>((.agg [(ow 1 r.1.length),(ow 2 r.2.1.length),(.int .i64 r.2.2.1),(.bool r.2.2.2)]),[(.live 4 [[(ow 1 r.1.length),(ow 2 r.2.1.length),(.int .i64 r.2.2.1),(.bool r.2.2.2)]]),(ob 1 r.1),(ob 2 r.2.1)])
def g100_E (a:K0 × List TV):List TV:=[(.vp ((.vs (rows a.1.1))::(.vs (rows a.1.2.1))::(.int .i64 a.1.2.2.1)::(.bool a.1.2.2.2)::a.2))]
theorem g100_run (a_d:K0) (q0:List TV):callFn (X g100_S) g100_tf (g100_E (a_d,q0)) [] = (spec_l09Own a_d).map g100_O:=by
  rw [callFn_eq]
  simp (maxSteps:=2000000) (maxDischargeDepth:=8) -implicitDefEqProofs [g100_tf,spec_l09Own,g100_E] <;> (try simp only [map_to_bind,some_elim,g100_O])
def g100_r:Rule:=RlO g100_E (fun a=>spec_l09Own a.1) g100_O
theorem g100_ok:RuleOk Tryz.prog 39 g100_r:=ok_rlo (S:=g100_S) (tf:=g100_tf) (SysOk.on trivial trivial) (trE_ok (ks:=[[20]]) Tryz.func39 (by kernel_rfl)) fun a=>g100_run a.1 a.2
@[simp] theorem g100_app (y0 y1 y2 y3)(q0:List TV):g100_r [(.vp ((.vs (rows y0))::(.vs (rows y1))::(.int .i64 y2)::(.bool y3)::q0))] = (spec_l09Own ((y0,y1,y2,y3))).map g100_O :=
  RlO_app (enc:=g100_E) (by intro a b h; simp [g100_E,Prod.ext_iff] at h ⊢; simp [h]) ((y0,y1,y2,y3),q0)
/-! spec.l12Pages -/
def g73_tf:TFn:=⟨(sq [mk 2 (.c .nils)] [0] (.seq (.ops [oo 3 (.bslice [(.int .i64 0),(.str [])] 0 []),mo 4 0,oo 5 (.append 81 2 24 (.t 3) (.t 4)),mo 2 5]) (.keep (kp [(2,1)] [(0,1)] 0) .ret))),[.t 2]⟩
abbrev g73_S:=Sys.on [] []
def spec_l12Pages (a_list:List (Int × Str)):Option ((List (Int × Str))):=(appL 24 ([]:List (Int × Str)) a_list).bind fun l1=>some l1
@[simp] def g73_O:((List (Int × Str))) → TV × List Blk:=fun r=>((ow 0 r.length),[(ob 2 r)])
def g73_E (a:(List (Int × Str))):List TV:=[(.vs (rows a))]
theorem g73_run (a_list:List (Int × Str)) :callFn (X g73_S) g73_tf (g73_E a_list) [] = (spec_l12Pages a_list).map g73_O:=by
  rw [callFn_eq]
  simp (maxSteps:=2000000) (maxDischargeDepth:=8) -implicitDefEqProofs [g73_tf,spec_l12Pages,g73_E] <;> (try simp only [map_to_bind,some_elim,g73_O])
def g73_r:Rule:=RlO g73_E (fun a=>spec_l12Pages a) g73_O
theorem g73_ok:RuleOk Tryz.prog 40 g73_r:=ok_rlo (S:=g73_S) (tf:=g73_tf) (SysOk.on trivial trivial) (trE_ok (ks:=[]) Tryz.func40 (by kernel_rfl)) fun a=>g73_run a
@[simp] theorem g73_app (y0):g73_r [(.vs (rows y0))] = (spec_l12Pages y0).map g73_O :=
  RlO_app (enc:=g73_E) (by intro a b h; simp [g73_E,Prod.ext_iff] at h ⊢; simp [h]) y0
/-! spec.l12Own -/
def g101_tf:TFn:=⟨(sq [oo 2 (.alloc [.nils,.nils,(.int .i64 0),(.bool false),(.int .i64 0),(.int .i64 0),(.int .i64 0),(.int .i64 0),(.int .i64 0),(.int .i64 0),.nils,.nils])] [0,2] (.seq (.draw [([],mo 3 0),([0],nk 4 3),([0,1],fa 5 0 4),([0,1,2],ca 6 39 [.t 5]),([],mo 7 0),([4],nk 8 7),([4,5],fa 9 4 8),([4,5,6],ln 10 4 9),([],mo 11 0),([8],nk 12 11),([8,9],fa 13 8 12),([8,9,10],ld 14 13),([],mo 15 0),([12],nk 16 15),([12,13],fa 17 9 16),([12,13,14],ld 18 17),([],mo 19 0),([16],nk 20 19),([16,17],fa 21 10 20),([16,17,18],ld 22 21),([0,1,2,3,16,17,18,19],ca 23 40 [.t 22]),([],mo 24 0),([21],nk 25 24),([21,22],fa 26 11 25),([21,22,23],ld 27 26),([0,1,2,3,16,17,18,19,20,21,22,23,24],ca 28 40 [.t 27])] [oo 29 (.build [.nils,.nils,(.int .i64 0),(.bool false),(.int .i64 0),(.int .i64 0),(.int .i64 0),(.int .i64 0),(.int .i64 0),(.int .i64 0),.nils,.nils] [(0,4,(.t 6)),(4,4,(.t 10)),(8,1,(.t 14)),(9,1,(.t 18)),(10,1,(.t 23)),(11,1,(.t 28))]),⟨none,none,(.store 12 (.t 2) (.t 29))⟩]) (.keep (kp [(2,0)] [(0,2),(2,1),(3,1),(4,1),(5,1)] 0) .ret))),[.cell 2 (some 12)]⟩
abbrev g101_S:=Sys.on [(39,g100_r),(40,g73_r)] []
def spec_l12Own (a_p:K1):Option (K1):=(spec_l09Own a_p.1).bind fun r1=>(spec_l12Pages a_p.2.2.2.2.1).bind fun r2=>(spec_l12Pages a_p.2.2.2.2.2).bind fun r3=>some ((r1,a_p.2.1,a_p.2.2.1,a_p.2.2.2.1,r2,r3))
@[simp] def g101_O:(K1) → TV × List Blk:=fun r=>((.agg [(ow 1 r.1.1.length),(ow 2 r.1.2.1.length),(.int .i64 r.1.2.2.1),(.bool r.1.2.2.2),(.int .i64 r.2.1.1),(.int .i64 r.2.1.2.1),(.int .i64 r.2.1.2.2.1),(.int .i64 r.2.1.2.2.2),(.int .i64 r.2.2.1),(.int .i64 r.2.2.2.1),(ow 3 r.2.2.2.2.1.length),(ow 4 r.2.2.2.2.2.length)]),[(.live 12 [[(ow 1 r.1.1.length),(ow 2 r.1.2.1.length),(.int .i64 r.1.2.2.1),(.bool r.1.2.2.2),(.int .i64 r.2.1.1),(.int .i64 r.2.1.2.1),(.int .i64 r.2.1.2.2.1),(.int .i64 r.2.1.2.2.2),(.int .i64 r.2.2.1),(.int .i64 r.2.2.2.1),(ow 3 r.2.2.2.2.1.length),(ow 4 r.2.2.2.2.2.length)]]),(ob 1 r.1.1),(ob 2 r.1.2.1),(ob 2 r.2.2.2.2.1),(ob 2 r.2.2.2.2.2)])
def g101_E (a:K1 × List TV):List TV:=[(.vp ((.vs (rows a.1.1.1))::(.vs (rows a.1.1.2.1))::(.int .i64 a.1.1.2.2.1)::(.bool a.1.1.2.2.2)::(.int .i64 a.1.2.1.1)::(.int .i64 a.1.2.1.2.1)::(.int .i64 a.1.2.1.2.2.1)::(.int .i64 a.1.2.1.2.2.2)::(.int .i64 a.1.2.2.1)::(.int .i64 a.1.2.2.2.1)::(.vs (rows a.1.2.2.2.2.1))::(.vs (rows a.1.2.2.2.2.2))::a.2))]
theorem g101_run (a_p:K1) (q0:List TV):callFn (X g101_S) g101_tf (g101_E (a_p,q0)) [] = (spec_l12Own a_p).map g101_O:=by
  rw [callFn_eq]
  simp (maxSteps:=2000000) (maxDischargeDepth:=8) -implicitDefEqProofs [g101_tf,spec_l12Own,g101_E] <;> (try simp only [map_to_bind,some_elim,g101_O])
def g101_r:Rule:=RlO g101_E (fun a=>spec_l12Own a.1) g101_O
theorem g101_ok:RuleOk Tryz.prog 14 g101_r:=ok_rlo (S:=g101_S) (tf:=g101_tf) (SysOk.on ⟨g100_ok,g73_ok,trivial⟩ trivial) (trE_ok (ks:=[[26]]) Tryz.func14 (by kernel_rfl)) fun a=>g101_run a.1 a.2
@[simp] theorem g101_app (y0 y1 y2 y3 y4 y5 y6 y7 y8 y9 y10 y11)(q0:List TV):g101_r [(.vp ((.vs (rows y0))::(.vs (rows y1))::(.int .i64 y2)::(.bool y3)::(.int .i64 y4)::(.int .i64 y5)::(.int .i64 y6)::(.int .i64 y7)::(.int .i64 y8)::(.int .i64 y9)::(.vs (rows y10))::(.vs (rows y11))::q0))] = (spec_l12Own (((y0,y1,y2,y3),(y4,y5,y6,y7),y8,y9,y10,y11))).map g101_O :=
  RlO_app (enc:=g101_E) (by intro a b h; simp [g101_E,Prod.ext_iff] at h ⊢; simp [h]) (((y0,y1,y2,y3),(y4,y5,y6,y7),y8,y9,y10,y11),q0)
/-! spec.l09Power -/
def g29_tf:TFn:=⟨(sq [mk 2 (kb false)] [0] (.seq (sq [mo 3 0,nk 4 3,fa 5 3 4,ld 6 5,mo 7 6,⟨(some 8),(some (7,false)),(.mv (.t 0))⟩,⟨(some 9),(some (7,false)),(.nilchk (.t 8))⟩,⟨(some 10),(some (7,false)),(.faddr 2 (.t 9))⟩,⟨(some 11),(some (7,false)),(.load none (.t 10))⟩,⟨(some 12),(some (7,false)),(.bin .num .eql (.t 11) (ki 0))⟩,pk 13 (.t 7) (kb true) (.t 12)] [0,13] (.cond (.t 13) (sq [mo 14 0,nk 15 14,fa 16 3 15,⟨none,none,(.store 1 (.t 16) (kb true))⟩] [] (.seq (.ops [mk 2 (kb false)]) (.keep (kp [(2,0)] [(0,2),(1,1),(2,1),(3,1),(4,1)] 2) .ret))) .skip)) (.trim [0] (.seq (sq [mo 17 0,nk 18 17,fa 19 2 18,ld 20 19,bn 21 .gtr (.t 20) (ki 0)] [0,21] (.cond (.t 21) (.after (.ops [mo 22 0,nk 23 22,fa 24 2 23,ld 25 24,bn 26 .sub (.t 25) (ki 1),nk 27 22,fa 28 2 27,⟨none,none,(.store 1 (.t 28) (.t 26))⟩]) (kp [] [(0,2),(1,1),(2,1),(3,1),(4,1)] 2)) (.keep (kp [] [(0,2),(1,1),(2,1),(3,1),(4,1)] 2) .skip))) (.trim [] (.seq (.ops [mk 2 (kb true)]) (.keep (kp [(2,0)] [(0,2),(1,1),(2,1),(3,1),(4,1)] 2) .ret))))))),[.t 2]⟩
abbrev g29_S:=Sys.on [] []
def spec_l09Power_o36 (a1:K1):Option (List Str × (List (Int × Str)) × Int × Bool × Int × Int × Int × Int × Int × Int × (List (Int × Str)) × (List (Int × Str)) × Bool):=if a1.1.2.2.2 = true then some (a1.1.1,a1.1.2.1,a1.1.2.2.1,true,a1.2.1.1,a1.2.1.2.1,a1.2.1.2.2.1,a1.2.1.2.2.2,a1.2.2.1,a1.2.2.2.1,a1.2.2.2.2.2,a1.2.2.2.2.1,false) else if a1.1.2.2.1 = 0 then some (a1.1.1,a1.1.2.1,a1.1.2.2.1,true,a1.2.1.1,a1.2.1.2.1,a1.2.1.2.2.1,a1.2.1.2.2.2,a1.2.2.1,a1.2.2.2.1,a1.2.2.2.2.2,a1.2.2.2.2.1,false) else if a1.1.2.2.1 > 0 then some (a1.1.1,a1.1.2.1,(IntKind.i64.wrap (a1.1.2.2.1 - 1)),a1.1.2.2.2,a1.2.1.1,a1.2.1.2.1,a1.2.1.2.2.1,a1.2.1.2.2.2,a1.2.2.1,a1.2.2.2.1,a1.2.2.2.2.2,a1.2.2.2.2.1,true) else some (a1.1.1,a1.1.2.1,a1.1.2.2.1,a1.1.2.2.2,a1.2.1.1,a1.2.1.2.1,a1.2.1.2.2.1,a1.2.1.2.2.2,a1.2.2.1,a1.2.2.2.1,a1.2.2.2.2.2,a1.2.2.2.2.1,true)
@[simp] def g29_O:(List Str × (List (Int × Str)) × Int × Bool × Int × Int × Int × Int × Int × Int × (List (Int × Str)) × (List (Int × Str)) × Bool) → TV × List Blk:=fun r=>((.bool r.2.2.2.2.2.2.2.2.2.2.2.2),[(.live 12 [[(ow 2 r.1.length),(ow 3 r.2.1.length),(.int .i64 r.2.2.1),(.bool r.2.2.2.1),(.int .i64 r.2.2.2.2.1),(.int .i64 r.2.2.2.2.2.1),(.int .i64 r.2.2.2.2.2.2.1),(.int .i64 r.2.2.2.2.2.2.2.1),(.int .i64 r.2.2.2.2.2.2.2.2.1),(.int .i64 r.2.2.2.2.2.2.2.2.2.1),(ow 1 r.2.2.2.2.2.2.2.2.2.2.2.1.length),(ow 4 r.2.2.2.2.2.2.2.2.2.2.1.length)]]),(ob 2 r.2.2.2.2.2.2.2.2.2.2.2.1),(ob 1 r.1),(ob 2 r.2.1),(ob 2 r.2.2.2.2.2.2.2.2.2.2.1)])
abbrev g29_T:=K1
def g29_E (a:g29_T):List TV:=[(.ptr 0 0 0)]
def g29_B (a:g29_T):List Blk:=[(.live 12 [[(ow 2 a.1.1.length),(ow 3 a.1.2.1.length),(.int .i64 a.1.2.2.1),(.bool a.1.2.2.2),(.int .i64 a.2.1.1),(.int .i64 a.2.1.2.1),(.int .i64 a.2.1.2.2.1),(.int .i64 a.2.1.2.2.2),(.int .i64 a.2.2.1),(.int .i64 a.2.2.2.1),(ow 1 a.2.2.2.2.1.length),(ow 4 a.2.2.2.2.2.length)]]),(ob 2 a.2.2.2.2.1),(ob 1 a.1.1),(ob 2 a.1.2.1),(ob 2 a.2.2.2.2.2)]
theorem g29_run (a1:K1) :callFn (X g29_S) g29_tf (g29_E a1) (g29_B a1) = (spec_l09Power_o36 a1).map g29_O:=by
  rw [callFn_eq]
  simp (maxSteps:=2000000) (maxDischargeDepth:=8) -implicitDefEqProofs [g29_tf,spec_l09Power_o36,g29_E,g29_B] <;> (try simp only [map_to_bind,some_elim,g29_O])
def g29_r:MRule:=RmO g29_E g29_B (fun a=>(spec_l09Power_o36 a).bind fun r=>if r.2.2.2.2.2.2.2.2.2.2.2.1.length = a.2.2.2.2.1.length then some (r.1,r.2.1,r.2.2.1,r.2.2.2.1,r.2.2.2.2.1,r.2.2.2.2.2.1,r.2.2.2.2.2.2.1,r.2.2.2.2.2.2.2.1,r.2.2.2.2.2.2.2.2.1,r.2.2.2.2.2.2.2.2.2.1,r.2.2.2.2.2.2.2.2.2.2.1,(fixLen a.2.2.2.2.1 r.2.2.2.2.2.2.2.2.2.2.2.1),r.2.2.2.2.2.2.2.2.2.2.2.2) else none) g29_O
theorem g29_ok0:MRuleOk Tryz.prog 94 2 (RmO g29_E g29_B (fun a=>spec_l09Power_o36 a) g29_O):=ok_rmo (S:=g29_S) (tf:=g29_tf) (SysOk.on trivial trivial) (trE_ok (ks:=[]) Tryz.func94 (by kernel_rfl)) (by rfl) (fun _=>by simp [g29_B]) (fun _=>by simp) fun a=>g29_run a
theorem g29_ok:MRuleOk Tryz.prog 94 2 g29_r:=g29_ok0.weak fun a r hr=>by
  simp only [Option.bind_eq_some_iff] at hr
  obtain ⟨x,h1,h2⟩:=hr
  split at h2
  · rename_i hc
    simp only [Option.some.injEq] at h2
    rw [h1,← h2]
    simp [fixLen,hc]
  · cases h2
@[simp] theorem g29_app (y0:List Str)(y1:List (Int × Str))(y2 y3 y4 y5 y6 y7 y8 y9)(y10:List (Int × Str))(y11:List (Int × Str)){n1:Nat}(h1:n1 = y0.length){n2:Nat}(h2:n2 = y1.length){n3:Nat}(h3:n3 = y10.length){n4:Nat}(h4:n4 = y11.length):g29_r [(.ptr 0 0 0)] [(.live 12 [[(ow 2 n1),(ow 3 n2),(.int .i64 y2),(.bool y3),(.int .i64 y4),(.int .i64 y5),(.int .i64 y6),(.int .i64 y7),(.int .i64 y8),(.int .i64 y9),(ow 1 n3),(ow 4 n4)]]),(ob 2 y10),(ob 1 y0),(ob 2 y1),(ob 2 y11)] = ((spec_l09Power_o36 (((y0,y1,y2,y3),(y4,y5,y6,y7),y8,y9,y10,y11))).bind fun r=>if r.2.2.2.2.2.2.2.2.2.2.2.1.length = y10.length then some (r.1,r.2.1,r.2.2.1,r.2.2.2.1,r.2.2.2.2.1,r.2.2.2.2.2.1,r.2.2.2.2.2.2.1,r.2.2.2.2.2.2.2.1,r.2.2.2.2.2.2.2.2.1,r.2.2.2.2.2.2.2.2.2.1,r.2.2.2.2.2.2.2.2.2.2.1,(fixLen y10 r.2.2.2.2.2.2.2.2.2.2.2.1),r.2.2.2.2.2.2.2.2.2.2.2.2) else none).map g29_O:=by
  subst h1 h2 h3 h4
  exact RmO_app (enc:=g29_E) (encB:=g29_B) (by intro a b h h2; simp [g29_E,g29_B,Prod.ext_iff] at h h2 ⊢; simp [h,h2]) (((y0,y1,y2,y3),(y4,y5,y6,y7),y8,y9,y10,y11))
/-! spec.l09Barrier -/
def g21l1_cb:TC:=(.seq (sq [mo 7 3,mo 8 0,nk 9 8,fa 10 1 9,ld 11 10,le 12 11,bn 13 .lss (.t 7) (.t 12)] [0,3,13] (.cond (.t 13) .skip (.keep (kp [(0,0)] [(0,2),(1,1),(2,1),(3,1),(4,1)] 2) (.exit 0)))) (.trim [0,3] (.seq (.block 1 (.draw [([],mo 16 0),([0],nk 17 16),([0,1],fa 18 0 17),([0,1,2],ld 19 18),([],mo 20 0),([4],nk 21 20),([4,5],fa 22 1 21),([4,5,6],ld 23 22),([],mo 24 3),([4,5,6,7,8],ia 25 2 23 24),([4,5,6,7,8,9],fa 26 0 25),([4,5,6,7,8,9,10],ld 27 26),([],mo 28 0),([12],nk 29 28),([12,13],fa 30 1 29),([12,13,14],ld 31 30),([],mo 32 3),([12,13,14,15,16],ia 33 2 31 32),([12,13,14,15,16,17],fa 34 1 33),([12,13,14,15,16,17,18],ld 35 34)] [ia 36 1 19 27,⟨none,none,(.store 1 (.t 36) (.t 35))⟩])) (.trim [0,3] (.after (.ops [mo 14 3,bn 15 .add (.t 14) (ki 1),mo 3 15]) (kp [(0,0),(3,0)] [(0,2),(1,1),(2,1),(3,1),(4,1)] 2))))))
def g21l1_c:TC:=.loop [0,3] g21l1_cb
def g21_tf:TFn:=⟨(sq [mk 2 (ki 0)] [0] (.seq (sq [mo 4 0,oo 5 (.callM 94 0 [0,1,2,3,4] [.t 4]),nt 6 5] [0,6] (.cond (.t 6) (.seq (.ops [mk 2 (ki 13)]) (.keep (kp [(2,0)] [(0,2),(1,1),(5,1),(6,1),(7,1)] 2) .ret)) .skip)) (.trim [0] (.seq (sq [mk 3 (ki 0)] [0,3] (.block 0 (.keep (kp [(0,0),(3,0)] [(0,2),(1,1),(5,1),(6,1),(7,1)] 2) g21l1_c))) (.trim [0] (sq [mo 37 0,oo 38 (.bslice [(.int .i64 0),(.str [])] 0 []),nk 39 37,fa 40 1 39,⟨none,none,(.store 1 (.t 40) (.t 38))⟩] [] (.seq (.ops [mk 2 (ki 0)]) (.keep (kp [(2,0)] [(0,2),(1,1),(2,1),(1000,1),(4,1)] 2) .ret)))))))),[.t 2]⟩
abbrev g21_S:=Sys.on [] [((94,0),(2,g29_r))]
@[reducible,simp] def g21l1_F:(List Str × (List (Int × Str)) × Int × Bool × Int × Int × Int × Int × Int × Int × (List (Int × Str)) × (List (Int × Str))) → Out:=(fun t=>(.ext 0,[(0,(.ptr 0 0 0))],[(.live 12 [[(ow 2 t.1.length),(ow 3 t.2.1.length),(.int .i64 t.2.2.1),(.bool t.2.2.2.1),(.int .i64 t.2.2.2.2.1),(.int .i64 t.2.2.2.2.2.1),(.int .i64 t.2.2.2.2.2.2.1),(.int .i64 t.2.2.2.2.2.2.2.1),(.int .i64 t.2.2.2.2.2.2.2.2.1),(.int .i64 t.2.2.2.2.2.2.2.2.2.1),(ow 1 t.2.2.2.2.2.2.2.2.2.2.2.length),(ow 4 t.2.2.2.2.2.2.2.2.2.2.1.length)]]),(ob 2 t.2.2.2.2.2.2.2.2.2.2.2),(ob 1 t.1),(ob 2 t.2.1),(ob 2 t.2.2.2.2.2.2.2.2.2.2.1)]))
def spec_l09Barrier_o36_l1_b (v3:List (Int × Str)) (v4:Int) (v5:Bool) (v6:Int) (v7:Int) (v8:Int) (v9:Int) (v10:Int) (v11:Int) (v12:List (Int × Str)) (v13:List (Int × Str)) (v2:List Str) (v14:Int):Option ((List Str × Int) ⊕ (List Str × (List (Int × Str)) × Int × Bool × Int × Int × Int × Int × Int × Int × (List (Int × Str)) × (List (Int × Str)))):=if v14 < ((v3.length:Nat):Int) then if 0 ≤ v14 ∧ v14 < ((v3.length:Nat):Int) then (v3[(v14).toNat]?).bind fun x15=>if 0 ≤ v14 ∧ v14 < ((v3.length:Nat):Int) then (v3[(v14).toNat]?).bind fun x16=>if 0 ≤ x15.1 ∧ x15.1 < ((v2.length:Nat):Int) then (v2[(x15.1).toNat]?).bind fun x17=>some (.inl ((v2.set (x15.1).toNat x16.2),(IntKind.i64.wrap (v14 + 1)))) else none else none else none else some (.inr (v2,v3,v4,v5,v6,v7,v8,v9,v10,v11,v12,v13))
theorem g21l1_b_eq  (v3:List (Int × Str)) (v4:Int) (v5:Bool) (v6:Int) (v7:Int) (v8:Int) (v9:Int) (v10:Int) (v11:Int) (v12:List (Int × Str)) (v13:List (Int × Str)) (v2:List Str) (v14:Int):X g21_S g21l1_cb (keepEnv [0,3] [(0,(.ptr 0 0 0)),(3,(.int .i64 v14))]) [(.live 12 [[(ow 2 v2.length),(ow 3 v3.length),(.int .i64 v4),(.bool v5),(.int .i64 v6),(.int .i64 v7),(.int .i64 v8),(.int .i64 v9),(.int .i64 v10),(.int .i64 v11),(ow 1 v13.length),(ow 4 v12.length)]]),(ob 2 v13),(ob 1 v2),(ob 2 v3),(ob 2 v12)] = (spec_l09Barrier_o36_l1_b v3 v4 v5 v6 v7 v8 v9 v10 v11 v12 v13 v2 v14).map (Sum.elim (fun s=>(TX.nrm,[(0,(.ptr 0 0 0)),(3,(.int .i64 s.2))],[(.live 12 [[(ow 2 s.1.length),(ow 3 v3.length),(.int .i64 v4),(.bool v5),(.int .i64 v6),(.int .i64 v7),(.int .i64 v8),(.int .i64 v9),(.int .i64 v10),(.int .i64 v11),(ow 1 v13.length),(ow 4 v12.length)]]),(ob 2 v13),(ob 1 s.1),(ob 2 v3),(ob 2 v12)])) g21l1_F):=by
  simp (maxSteps:=2000000) (maxDischargeDepth:=8) -implicitDefEqProofs [g21l1_cb,spec_l09Barrier_o36_l1_b] <;> (try simp only [map_to_bind,some_elim,g21l1_F])
def spec_l09Barrier_o36_l1 (v3:List (Int × Str)) (v4:Int) (v5:Bool) (v6:Int) (v7:Int) (v8:Int) (v9:Int) (v10:Int) (v11:Int) (v12:List (Int × Str)) (v13:List (Int × Str)) (s:List Str × Int):Option (List Str × (List (Int × Str)) × Int × Bool × Int × Int × Int × Int × Int × Int × (List (Int × Str)) × (List (Int × Str))):=loopO (fun s=>spec_l09Barrier_o36_l1_b v3 v4 v5 v6 v7 v8 v9 v10 v11 v12 v13 s.1 s.2) s
@[simp] theorem g21l1_eq (y0:List Str)(y1:List (Int × Str))(y2 y3 y4 y5 y6 y7 y8 y9)(y10:List (Int × Str))(y11:List (Int × Str))(y12){n1:Nat}(h1:n1 = y0.length){n2:Nat}(h2:n2 = y1.length){n3:Nat}(h3:n3 = y11.length){n4:Nat}(h4:n4 = y10.length):X g21_S g21l1_c [(0,(.ptr 0 0 0)),(3,(.int .i64 y12))] [(.live 12 [[(ow 2 n1),(ow 3 n2),(.int .i64 y2),(.bool y3),(.int .i64 y4),(.int .i64 y5),(.int .i64 y6),(.int .i64 y7),(.int .i64 y8),(.int .i64 y9),(ow 1 n3),(ow 4 n4)]]),(ob 2 y11),(ob 1 y0),(ob 2 y1),(ob 2 y10)] = (spec_l09Barrier_o36_l1 y1 y2 y3 y4 y5 y6 y7 y8 y9 y10 y11 (y0,y12)).map g21l1_F:=by
  subst h1 h2 h3 h4
  exact loop_X _ _ _ _ (by intro r; first | (simp; done) | (rcases r with r | r <;> simp; done) | (rcases r with r | r | r <;> simp; done) | (rcases r with r | r | r | r <;> simp)) (fun s=>g21l1_b_eq  y1 y2 y3 y4 y5 y6 y7 y8 y9 y10 y11 s.1 s.2) (y0,y12)
def spec_l09Barrier_o36 (a1:K1):Option (List Str × (List (Int × Str)) × Int × Bool × Int × Int × Int × Int × Int × Int × (List (Int × Str)) × (List (Int × Str)) × Int):=(spec_l09Power_o36 a1).bind fun r1=>if r1.2.2.2.2.2.2.2.2.2.2.2.1.length = a1.2.2.2.2.1.length then if ¬(r1.2.2.2.2.2.2.2.2.2.2.2.2 = true) then some (r1.1,r1.2.1,r1.2.2.1,r1.2.2.2.1,r1.2.2.2.2.1,r1.2.2.2.2.2.1,r1.2.2.2.2.2.2.1,r1.2.2.2.2.2.2.2.1,r1.2.2.2.2.2.2.2.2.1,r1.2.2.2.2.2.2.2.2.2.1,r1.2.2.2.2.2.2.2.2.2.2.1,(fixLen a1.2.2.2.2.1 r1.2.2.2.2.2.2.2.2.2.2.2.1),13) else (spec_l09Barrier_o36_l1 r1.2.1 r1.2.2.1 r1.2.2.2.1 r1.2.2.2.2.1 r1.2.2.2.2.2.1 r1.2.2.2.2.2.2.1 r1.2.2.2.2.2.2.2.1 r1.2.2.2.2.2.2.2.2.1 r1.2.2.2.2.2.2.2.2.2.1 r1.2.2.2.2.2.2.2.2.2.2.1 ((fixLen a1.2.2.2.2.1 r1.2.2.2.2.2.2.2.2.2.2.2.1)) ((r1.1,0))).bind fun r18=>some (r18.1,([]:List (Int × Str)),r18.2.2.1,r18.2.2.2.1,r18.2.2.2.2.1,r18.2.2.2.2.2.1,r18.2.2.2.2.2.2.1,r18.2.2.2.2.2.2.2.1,r18.2.2.2.2.2.2.2.2.1,r18.2.2.2.2.2.2.2.2.2.1,r18.2.2.2.2.2.2.2.2.2.2.1,r18.2.2.2.2.2.2.2.2.2.2.2,0) else none
@[simp] def g21_O:(List Str × (List (Int × Str)) × Int × Bool × Int × Int × Int × Int × Int × Int × (List (Int × Str)) × (List (Int × Str)) × Int) → TV × List Blk:=fun r=>((.int .i64 r.2.2.2.2.2.2.2.2.2.2.2.2),[(.live 12 [[(ow 2 r.1.length),(ow 3 r.2.1.length),(.int .i64 r.2.2.1),(.bool r.2.2.2.1),(.int .i64 r.2.2.2.2.1),(.int .i64 r.2.2.2.2.2.1),(.int .i64 r.2.2.2.2.2.2.1),(.int .i64 r.2.2.2.2.2.2.2.1),(.int .i64 r.2.2.2.2.2.2.2.2.1),(.int .i64 r.2.2.2.2.2.2.2.2.2.1),(ow 1 r.2.2.2.2.2.2.2.2.2.2.2.1.length),(ow 4 r.2.2.2.2.2.2.2.2.2.2.1.length)]]),(ob 2 r.2.2.2.2.2.2.2.2.2.2.2.1),(ob 1 r.1),(ob 2 r.2.1),(ob 2 r.2.2.2.2.2.2.2.2.2.2.1)])
abbrev g21_T:=K1
def g21_E (a:g21_T):List TV:=[(.ptr 0 0 0)]
def g21_B (a:g21_T):List Blk:=[(.live 12 [[(ow 2 a.1.1.length),(ow 3 a.1.2.1.length),(.int .i64 a.1.2.2.1),(.bool a.1.2.2.2),(.int .i64 a.2.1.1),(.int .i64 a.2.1.2.1),(.int .i64 a.2.1.2.2.1),(.int .i64 a.2.1.2.2.2),(.int .i64 a.2.2.1),(.int .i64 a.2.2.2.1),(ow 1 a.2.2.2.2.1.length),(ow 4 a.2.2.2.2.2.length)]]),(ob 2 a.2.2.2.2.1),(ob 1 a.1.1),(ob 2 a.1.2.1),(ob 2 a.2.2.2.2.2)]
theorem g21_run (a1:K1) :callFn (X g21_S) g21_tf (g21_E a1) (g21_B a1) = (spec_l09Barrier_o36 a1).map g21_O:=by
  rw [callFn_eq]
  simp (maxSteps:=2000000) (maxDischargeDepth:=8) -implicitDefEqProofs [g21_tf,spec_l09Barrier_o36,g21_E,g21_B] <;> (try simp only [map_to_bind,some_elim,g21_O])
def g21_r:MRule:=RmO g21_E g21_B (fun a=>(spec_l09Barrier_o36 a).bind fun r=>if r.2.2.2.2.2.2.2.2.2.2.2.1.length = a.2.2.2.2.1.length then some (r.1,r.2.1,r.2.2.1,r.2.2.2.1,r.2.2.2.2.1,r.2.2.2.2.2.1,r.2.2.2.2.2.2.1,r.2.2.2.2.2.2.2.1,r.2.2.2.2.2.2.2.2.1,r.2.2.2.2.2.2.2.2.2.1,r.2.2.2.2.2.2.2.2.2.2.1,(fixLen a.2.2.2.2.1 r.2.2.2.2.2.2.2.2.2.2.2.1),r.2.2.2.2.2.2.2.2.2.2.2.2) else none) g21_O
theorem g21_ok0:MRuleOk Tryz.prog 71 2 (RmO g21_E g21_B (fun a=>spec_l09Barrier_o36 a) g21_O):=ok_rmo (S:=g21_S) (tf:=g21_tf) (SysOk.on trivial ⟨g29_ok,trivial⟩) (trE_ok (ks:=[[0,3],[20]]) Tryz.func71 (by kernel_rfl)) (by rfl) (fun _=>by simp [g21_B]) (fun _=>by simp) fun a=>g21_run a
theorem g21_ok:MRuleOk Tryz.prog 71 2 g21_r:=g21_ok0.weak fun a r hr=>by
  simp only [Option.bind_eq_some_iff] at hr
  obtain ⟨x,h1,h2⟩:=hr
  split at h2
  · rename_i hc
    simp only [Option.some.injEq] at h2
    rw [h1,← h2]
    simp [fixLen,hc]
  · cases h2
@[simp] theorem g21_app (y0:List Str)(y1:List (Int × Str))(y2 y3 y4 y5 y6 y7 y8 y9)(y10:List (Int × Str))(y11:List (Int × Str)){n1:Nat}(h1:n1 = y0.length){n2:Nat}(h2:n2 = y1.length){n3:Nat}(h3:n3 = y10.length){n4:Nat}(h4:n4 = y11.length):g21_r [(.ptr 0 0 0)] [(.live 12 [[(ow 2 n1),(ow 3 n2),(.int .i64 y2),(.bool y3),(.int .i64 y4),(.int .i64 y5),(.int .i64 y6),(.int .i64 y7),(.int .i64 y8),(.int .i64 y9),(ow 1 n3),(ow 4 n4)]]),(ob 2 y10),(ob 1 y0),(ob 2 y1),(ob 2 y11)] = ((spec_l09Barrier_o36 (((y0,y1,y2,y3),(y4,y5,y6,y7),y8,y9,y10,y11))).bind fun r=>if r.2.2.2.2.2.2.2.2.2.2.2.1.length = y10.length then some (r.1,r.2.1,r.2.2.1,r.2.2.2.1,r.2.2.2.2.1,r.2.2.2.2.2.1,r.2.2.2.2.2.2.1,r.2.2.2.2.2.2.2.1,r.2.2.2.2.2.2.2.2.1,r.2.2.2.2.2.2.2.2.2.1,r.2.2.2.2.2.2.2.2.2.2.1,(fixLen y10 r.2.2.2.2.2.2.2.2.2.2.2.1),r.2.2.2.2.2.2.2.2.2.2.2.2) else none).map g21_O:=by
  subst h1 h2 h3 h4
  exact RmO_app (enc:=g21_E) (encB:=g21_B) (by intro a b h h2; simp [g21_E,g21_B,Prod.ext_iff] at h h2 ⊢; simp [h,h2]) (((y0,y1,y2,y3),(y4,y5,y6,y7),y8,y9,y10,y11))
end
end Go.Proofs.TM
