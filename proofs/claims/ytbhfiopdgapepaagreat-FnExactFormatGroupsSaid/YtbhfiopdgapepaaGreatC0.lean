/- Functions of the program, as functions of their data: written by program. -/
import Derived.Test.YtbhfiopdgapepaaGreatTCk
import Derived.Test.YtbhfiopdgapepaaGreatTShelf
import Derived.Test.YtbhfiopdgapepaaGreatTReadR
import Derived.Test.YtbhfiopdgapepaaGreatTIns
import Derived.Test.YtbhfiopdgapepaaGreatTLib
import Derived.Test.YtbhfiopdgapepaaGreatProg
import Derived.KernelRfl
namespace Go.Proofs.TM
open Go Go.Proofs
set_option linter.unusedVariables false
set_option linter.unusedSimpArgs false
set_option maxHeartbeats 1000000
attribute [-simp] Option.map_bind strV_some
attribute [simp] guardOn_bool sA_bslice Function.comp_def
noncomputable section
abbrev K1:=(List Str × List (Int × Str) × Int × Bool) × (Int × Int × Int × Int) × Int × Int × List (Int × Str) × List (Int × Str)
abbrev K0:=List Str × List (Int × Str) × Int × Bool
abbrev K2:=Int × Int × List (Int × Int × Str)
/-! laws.szStringS -/
def g64l1_cb:TC:=(.seq (.seq (.ops [mo 12 5,mo 13 0,le 14 13,bn 15 .lss (.t 12) (.t 14)]) (.trim [0,1,5,15] (.cond (.t 15) .skip (.keep ⟨[(1,0)],[],0⟩ (.exit 0))))) (.trim [0,1,5] (.seq (.block 1 (.seq (.ops [mo 18 1,mo 19 0,mo 20 5,ia 21 1 19 20,ld 22 21,oo 23 (.len true (.t 22)),bn 24 .sub (.t 18) (.t 23),mo 1 24]) (.trim [0,1,5] (.seq (.ops [mo 25 1,bn 26 .lss (.t 25) (ki 0)]) (.trim [0,1,5,26] (.cond (.t 26) (.seq (.ops [oo 4 (.mv (ki (-1)))]) (.keep ⟨[(4,0)],[],0⟩ .ret)) .skip)))))) (.trim [0,1,5] (.after (.ops [mo 16 5,bn 17 .add (.t 16) (ki 1),mo 5 17]) ⟨[(0,0),(1,0),(5,0)],[],0⟩)))))
def g64l1_c:TC:=.loop [0,1,5] g64l1_cb
def g64_tf:TFn:=⟨(.seq (.ops [oo 4 (.mv (ki 0))]) (.trim [0,1] (.seq (.ops [mo 6 1,mo 7 0,le 8 7,bn 9 .sub (.t 6) (.t 8),mo 1 9]) (.trim [0,1] (.seq (.seq (.ops [mo 10 1,bn 11 .lss (.t 10) (ki 0)]) (.trim [0,1,11] (.cond (.t 11) (.seq (.ops [oo 4 (.mv (ki (-1)))]) (.keep ⟨[(4,0)],[],0⟩ .ret)) .skip))) (.trim [0,1] (.seq (.seq (.ops [oo 5 (.mv (ki 0))]) (.trim [0,1,5] (.block 0 (.keep ⟨[(0,0),(1,0),(5,0)],[],0⟩ g64l1_c)))) (.trim [1] (.seq (.ops [mo 27 1,mo 4 27]) (.keep ⟨[(4,0)],[],0⟩ .ret)))))))))),[.t 4]⟩
abbrev g64_S:=Sys.on [] []
@[reducible,simp] def g64l1_F:((Int) ⊕ (Int)) → Out:=(Sum.elim (fun t=>(.ext 0,[(1,(.int .i64 t))],[])) (fun t=>(.ret,[(4,(.int .i64 t))],[])))
def laws_szStringS_l1_b (v1:List Str) (v2:Int) (v3:Int):Option ((Int × Int) ⊕ ((Int) ⊕ (Int))):=if v3 < (v1.length:Int) then if 0 ≤ v3 then (v1[(v3).toNat]?).bind fun x4=>if (IntKind.i64.wrap (v2 - ((x4.length:Int)))) < 0 then some (.inr (.inr ((-1)))) else some (.inl ((IntKind.i64.wrap (v2 - ((x4.length:Int)))),(IntKind.i64.wrap (v3 + 1)))) else none else some (.inr (.inl v2))
theorem g64l1_b_eq  (v1:List Str) (v2:Int) (v3:Int):X g64_S g64l1_cb (keepEnv [0,1,5] [(0,(.vs (rows v1))),(1,(.int .i64 v2)),(5,(.int .i64 v3))]) [] = (laws_szStringS_l1_b v1 v2 v3).map (Sum.elim (fun s=>(TX.nrm,[(0,(.vs (rows v1))),(1,(.int .i64 s.1)),(5,(.int .i64 s.2))],[])) g64l1_F):=by
  simp (maxSteps:=2000000) (maxDischargeDepth:=8) -implicitDefEqProofs [g64l1_cb,laws_szStringS_l1_b] <;> (try simp only [map_to_bind,g64l1_F])
def laws_szStringS_l1 (v1:List Str) (s:Int × Int):Option ((Int) ⊕ (Int)):=loopO (fun s=>laws_szStringS_l1_b v1 s.1 s.2) s
@[simp] theorem g64l1_eq (y0 y1 y2):X g64_S g64l1_c [(0,(.vs (rows y0))),(1,(.int .i64 y1)),(5,(.int .i64 y2))] [] = (laws_szStringS_l1 y0 (y1,y2)).map g64l1_F:=by
  exact loop_X _ _ _ _ (by intro r; first | (simp; done) | (rcases r with r | r <;> simp; done) | (rcases r with r | r | r <;> simp; done) | (rcases r with r | r | r | r <;> simp)) (fun s=>g64l1_b_eq  y0 s.1 s.2) (y1,y2)
def laws_szStringS (a_a:List Str) (a_left:Int):Option (Int):=if (IntKind.i64.wrap (a_left - ((a_a.length:Int)))) < 0 then some ((-1)) else (laws_szStringS_l1 a_a (((IntKind.i64.wrap (a_left - ((a_a.length:Int)))),0))).bind fun r5=>Sum.elim (fun u6=>some u6) (fun u7=>some u7) r5
@[simp] def g64_O:Int → TV × List Blk:=fun r=>((.int .i64 r),[])
def g64_E (a:List Str × Int):List TV:=[(.vs (rows a.1)),(.int .i64 a.2)]
theorem g64_run (a_a:List Str) (a_left:Int) :callFn (X g64_S) g64_tf (g64_E (a_a,a_left)) [] = (laws_szStringS a_a a_left).map g64_O:=by
  rw [callFn_eq]
  simp (maxSteps:=2000000) (maxDischargeDepth:=8) -implicitDefEqProofs [g64_tf,laws_szStringS,g64_E] <;> (try simp only [map_to_bind,g64_O])
def g64_r:Rule:=RlO g64_E (fun a=>laws_szStringS a.1 a.2) g64_O
theorem g64_ok:RuleOk Tryz.prog 67 g64_r:=ok_rlo (S:=g64_S) (tf:=g64_tf) (SysOk.on trivial trivial) (trE_ok (ks:=[[0,1,5]]) Tryz.func67 (by kernel_rfl)) fun a=>g64_run a.1 a.2
@[simp] theorem g64_app (y0 y1):g64_r [(.vs (rows y0)),(.int .i64 y1)] = (laws_szStringS y0 y1).map g64_O :=
  RlO_app (enc:=g64_E) (by intro a b h; simp [g64_E,Prod.ext_iff] at h ⊢; simp [h]) (y0,y1)
/-! laws.szPut -/
def g134_tf:TFn:=⟨(.seq (.ops [bx 2 0,oo 4 (.mv (ki 0))]) (.trim [1,2] (.seq (.ops [mo 5 1,fa 6 1 2,ld 7 6,oo 8 (.len true (.t 7)),bn 9 .sub (.t 5) (.t 8),mo 1 9]) (.trim [1] (.seq (.seq (.ops [mo 10 1,bn 11 .lss (.t 10) (ki 0)]) (.trim [1,11] (.cond (.t 11) (.seq (.ops [oo 4 (.mv (ki (-1)))]) (.keep ⟨[(4,0)],[],0⟩ .ret)) .skip))) (.trim [1] (.seq (.ops [mo 12 1,mo 4 12]) (.keep ⟨[(4,0)],[],0⟩ .ret)))))))),[.t 4]⟩
abbrev g134_S:=Sys.on [] []
def laws_szPut (a_a:Int × Str) (a_left:Int):Option (Int):=if (IntKind.i64.wrap (a_left - ((a_a.2.length:Int)))) < 0 then some ((-1)) else some ((IntKind.i64.wrap (a_left - ((a_a.2.length:Int)))))
@[simp] def g134_O:Int → TV × List Blk:=fun r=>((.int .i64 r),[])
def g134_E (a:(Int × Str) × Int):List TV:=[(.agg [(.int .i64 a.1.1),(.str a.1.2)]),(.int .i64 a.2)]
theorem g134_run (a_a:Int × Str) (a_left:Int) :callFn (X g134_S) g134_tf (g134_E (a_a,a_left)) [] = (laws_szPut a_a a_left).map g134_O:=by
  rw [callFn_eq]
  simp (maxSteps:=2000000) (maxDischargeDepth:=8) -implicitDefEqProofs [g134_tf,laws_szPut,g134_E] <;> (try simp only [map_to_bind,g134_O])
def g134_r:Rule:=RlO g134_E (fun a=>laws_szPut a.1 a.2) g134_O
theorem g134_ok:RuleOk Tryz.prog 122 g134_r:=ok_rlo (S:=g134_S) (tf:=g134_tf) (SysOk.on trivial trivial) (trE_ok (ks:=[]) Tryz.func122 (by kernel_rfl)) fun a=>g134_run a.1 a.2
@[simp] theorem g134_app (y0 y1 y2):g134_r [(.agg [(.int .i64 y0),(.str y1)]),(.int .i64 y2)] = (laws_szPut ((y0,y1)) y2).map g134_O :=
  RlO_app (enc:=g134_E) (by intro a b h; simp [g134_E,Prod.ext_iff] at h ⊢; simp [h]) ((y0,y1),y2)
/-! laws.szPutS -/
def g115l1_cb:TC:=(.seq (.seq (.ops [mo 12 5,mo 13 0,le 14 13,bn 15 .lss (.t 12) (.t 14)]) (.trim [0,1,5,15] (.cond (.t 15) .skip (.keep ⟨[(1,0)],[],0⟩ (.exit 0))))) (.trim [0,1,5] (.seq (.block 1 (.seq (.ops [mo 18 0,mo 19 5,ia 20 2 18 19,ln 21 2 20,mo 22 1,ca 23 122 [.t 21,.t 22],mo 1 23]) (.trim [0,1,5] (.seq (.ops [mo 24 1,bn 25 .lss (.t 24) (ki 0)]) (.trim [0,1,5,25] (.cond (.t 25) (.seq (.ops [oo 4 (.mv (ki (-1)))]) (.keep ⟨[(4,0)],[],0⟩ .ret)) .skip)))))) (.trim [0,1,5] (.after (.ops [mo 16 5,bn 17 .add (.t 16) (ki 1),mo 5 17]) ⟨[(0,0),(1,0),(5,0)],[],0⟩)))))
def g115l1_c:TC:=.loop [0,1,5] g115l1_cb
def g115_tf:TFn:=⟨(.seq (.ops [oo 4 (.mv (ki 0))]) (.trim [0,1] (.seq (.ops [mo 6 1,mo 7 0,le 8 7,bn 9 .sub (.t 6) (.t 8),mo 1 9]) (.trim [0,1] (.seq (.seq (.ops [mo 10 1,bn 11 .lss (.t 10) (ki 0)]) (.trim [0,1,11] (.cond (.t 11) (.seq (.ops [oo 4 (.mv (ki (-1)))]) (.keep ⟨[(4,0)],[],0⟩ .ret)) .skip))) (.trim [0,1] (.seq (.seq (.ops [oo 5 (.mv (ki 0))]) (.trim [0,1,5] (.block 0 (.keep ⟨[(0,0),(1,0),(5,0)],[],0⟩ g115l1_c)))) (.trim [1] (.seq (.ops [mo 26 1,mo 4 26]) (.keep ⟨[(4,0)],[],0⟩ .ret)))))))))),[.t 4]⟩
abbrev g115_S:=Sys.on [(122,g134_r)] []
@[reducible,simp] def g115l1_F:((Int) ⊕ (Int)) → Out:=(Sum.elim (fun t=>(.ext 0,[(1,(.int .i64 t))],[])) (fun t=>(.ret,[(4,(.int .i64 t))],[])))
def laws_szPutS_l1_b (v1:List (Int × Str)) (v2:Int) (v3:Int):Option ((Int × Int) ⊕ ((Int) ⊕ (Int))):=if v3 < (v1.length:Int) then if 0 ≤ v3 then (v1[(v3).toNat]?).bind fun x4=>(laws_szPut x4 v2).bind fun r5=>if r5 < 0 then some (.inr (.inr ((-1)))) else some (.inl (r5,(IntKind.i64.wrap (v3 + 1)))) else none else some (.inr (.inl v2))
theorem g115l1_b_eq  (v1:List (Int × Str)) (v2:Int) (v3:Int):X g115_S g115l1_cb (keepEnv [0,1,5] [(0,(.vs (rows v1))),(1,(.int .i64 v2)),(5,(.int .i64 v3))]) [] = (laws_szPutS_l1_b v1 v2 v3).map (Sum.elim (fun s=>(TX.nrm,[(0,(.vs (rows v1))),(1,(.int .i64 s.1)),(5,(.int .i64 s.2))],[])) g115l1_F):=by
  simp (maxSteps:=2000000) (maxDischargeDepth:=8) -implicitDefEqProofs [g115l1_cb,laws_szPutS_l1_b] <;> (try simp only [map_to_bind,g115l1_F])
def laws_szPutS_l1 (v1:List (Int × Str)) (s:Int × Int):Option ((Int) ⊕ (Int)):=loopO (fun s=>laws_szPutS_l1_b v1 s.1 s.2) s
@[simp] theorem g115l1_eq (y0 y1 y2):X g115_S g115l1_c [(0,(.vs (rows y0))),(1,(.int .i64 y1)),(5,(.int .i64 y2))] [] = (laws_szPutS_l1 y0 (y1,y2)).map g115l1_F:=by
  exact loop_X _ _ _ _ (by intro r; first | (simp; done) | (rcases r with r | r <;> simp; done) | (rcases r with r | r | r <;> simp; done) | (rcases r with r | r | r | r <;> simp)) (fun s=>g115l1_b_eq  y0 s.1 s.2) (y1,y2)
def laws_szPutS (a_a:List (Int × Str)) (a_left:Int):Option (Int):=if (IntKind.i64.wrap (a_left - ((a_a.length:Int)))) < 0 then some ((-1)) else (laws_szPutS_l1 a_a (((IntKind.i64.wrap (a_left - ((a_a.length:Int)))),0))).bind fun r6=>Sum.elim (fun u7=>some u7) (fun u8=>some u8) r6
@[simp] def g115_O:Int → TV × List Blk:=fun r=>((.int .i64 r),[])
def g115_E (a:(List (Int × Str)) × Int):List TV:=[(.vs (rows a.1)),(.int .i64 a.2)]
theorem g115_run (a_a:List (Int × Str)) (a_left:Int) :callFn (X g115_S) g115_tf (g115_E (a_a,a_left)) [] = (laws_szPutS a_a a_left).map g115_O:=by
  rw [callFn_eq]
  simp (maxSteps:=2000000) (maxDischargeDepth:=8) -implicitDefEqProofs [g115_tf,laws_szPutS,g115_E] <;> (try simp only [map_to_bind,g115_O])
def g115_r:Rule:=RlO g115_E (fun a=>laws_szPutS a.1 a.2) g115_O
theorem g115_ok:RuleOk Tryz.prog 68 g115_r:=ok_rlo (S:=g115_S) (tf:=g115_tf) (SysOk.on ⟨g134_ok,trivial⟩ trivial) (trE_ok (ks:=[[0,1,5]]) Tryz.func68 (by kernel_rfl)) fun a=>g115_run a.1 a.2
@[simp] theorem g115_app (y0 y1):g115_r [(.vs (rows y0)),(.int .i64 y1)] = (laws_szPutS y0 y1).map g115_O :=
  RlO_app (enc:=g115_E) (by intro a b h; simp [g115_E,Prod.ext_iff] at h ⊢; simp [h]) (y0,y1)
/-! laws.szDisk -/
def g116_tf:TFn:=⟨(.seq (.ops [bx 2 0,oo 4 (.mv (ki 0))]) (.trim [1,2] (.seq (.ops [fa 5 0 2,ld 6 5,mo 7 1,ca 8 67 [.t 6,.t 7],mo 1 8]) (.trim [1,2] (.seq (.seq (.ops [mo 9 1,bn 10 .lss (.t 9) (ki 0)]) (.trim [1,2,10] (.cond (.t 10) (.seq (.ops [oo 4 (.mv (ki (-1)))]) (.keep ⟨[(4,0)],[],0⟩ .ret)) .skip))) (.trim [1,2] (.seq (.ops [fa 11 1 2,ld 12 11,mo 13 1,ca 14 68 [.t 12,.t 13],mo 1 14]) (.trim [1] (.seq (.seq (.ops [mo 15 1,bn 16 .lss (.t 15) (ki 0)]) (.trim [1,16] (.cond (.t 16) (.seq (.ops [oo 4 (.mv (ki (-1)))]) (.keep ⟨[(4,0)],[],0⟩ .ret)) .skip))) (.trim [1] (.seq (.ops [mo 17 1,mo 4 17]) (.keep ⟨[(4,0)],[],0⟩ .ret)))))))))))),[.t 4]⟩
abbrev g116_S:=Sys.on [(67,g64_r),(68,g115_r)] []
def laws_szDisk (a_a:K0) (a_left:Int):Option (Int):=(laws_szStringS a_a.1 a_left).bind fun r1=>if r1 < 0 then some ((-1)) else (laws_szPutS a_a.2.1 r1).bind fun r2=>if r2 < 0 then some ((-1)) else some r2
@[simp] def g116_O:Int → TV × List Blk:=fun r=>((.int .i64 r),[])
def g116_E (a:K0 × Int):List TV:=[(.agg [(.vs (rows a.1.1)),(.vs (rows a.1.2.1)),(.int .i64 a.1.2.2.1),(.bool a.1.2.2.2)]),(.int .i64 a.2)]
theorem g116_run (a_a:K0) (a_left:Int) :callFn (X g116_S) g116_tf (g116_E (a_a,a_left)) [] = (laws_szDisk a_a a_left).map g116_O:=by
  rw [callFn_eq]
  simp (maxSteps:=2000000) (maxDischargeDepth:=8) -implicitDefEqProofs [g116_tf,laws_szDisk,g116_E] <;> (try simp only [map_to_bind,g116_O])
def g116_r:Rule:=RlO g116_E (fun a=>laws_szDisk a.1 a.2) g116_O
theorem g116_ok:RuleOk Tryz.prog 29 g116_r:=ok_rlo (S:=g116_S) (tf:=g116_tf) (SysOk.on ⟨g64_ok,g115_ok,trivial⟩ trivial) (trE_ok (ks:=[]) Tryz.func29 (by kernel_rfl)) fun a=>g116_run a.1 a.2
@[simp] theorem g116_app (y0 y1 y2 y3 y4):g116_r [(.agg [(.vs (rows y0)),(.vs (rows y1)),(.int .i64 y2),(.bool y3)]),(.int .i64 y4)] = (laws_szDisk ((y0,y1,y2,y3)) y4).map g116_O :=
  RlO_app (enc:=g116_E) (by intro a b h; simp [g116_E,Prod.ext_iff] at h ⊢; simp [h]) ((y0,y1,y2,y3),y4)
/-! laws.szPage -/
def g117_tf:TFn:=⟨(.seq (.ops [bx 2 0,oo 4 (.mv (ki 0))]) (.trim [1,2] (.seq (.ops [mo 5 1,fa 6 1 2,ld 7 6,oo 8 (.len true (.t 7)),bn 9 .sub (.t 5) (.t 8),mo 1 9]) (.trim [1] (.seq (.seq (.ops [mo 10 1,bn 11 .lss (.t 10) (ki 0)]) (.trim [1,11] (.cond (.t 11) (.seq (.ops [oo 4 (.mv (ki (-1)))]) (.keep ⟨[(4,0)],[],0⟩ .ret)) .skip))) (.trim [1] (.seq (.ops [mo 12 1,mo 4 12]) (.keep ⟨[(4,0)],[],0⟩ .ret)))))))),[.t 4]⟩
abbrev g117_S:=Sys.on [] []
def laws_szPage (a_a:Int × Str) (a_left:Int):Option (Int):=if (IntKind.i64.wrap (a_left - ((a_a.2.length:Int)))) < 0 then some ((-1)) else some ((IntKind.i64.wrap (a_left - ((a_a.2.length:Int)))))
@[simp] def g117_O:Int → TV × List Blk:=fun r=>((.int .i64 r),[])
def g117_E (a:(Int × Str) × Int):List TV:=[(.agg [(.int .i64 a.1.1),(.str a.1.2)]),(.int .i64 a.2)]
theorem g117_run (a_a:Int × Str) (a_left:Int) :callFn (X g117_S) g117_tf (g117_E (a_a,a_left)) [] = (laws_szPage a_a a_left).map g117_O:=by
  rw [callFn_eq]
  simp (maxSteps:=2000000) (maxDischargeDepth:=8) -implicitDefEqProofs [g117_tf,laws_szPage,g117_E] <;> (try simp only [map_to_bind,g117_O])
def g117_r:Rule:=RlO g117_E (fun a=>laws_szPage a.1 a.2) g117_O
theorem g117_ok:RuleOk Tryz.prog 69 g117_r:=ok_rlo (S:=g117_S) (tf:=g117_tf) (SysOk.on trivial trivial) (trE_ok (ks:=[]) Tryz.func69 (by kernel_rfl)) fun a=>g117_run a.1 a.2
@[simp] theorem g117_app (y0 y1 y2):g117_r [(.agg [(.int .i64 y0),(.str y1)]),(.int .i64 y2)] = (laws_szPage ((y0,y1)) y2).map g117_O :=
  RlO_app (enc:=g117_E) (by intro a b h; simp [g117_E,Prod.ext_iff] at h ⊢; simp [h]) ((y0,y1),y2)
/-! laws.szPageS -/
def g92l1_cb:TC:=(.seq (.seq (.ops [mo 12 5,mo 13 0,le 14 13,bn 15 .lss (.t 12) (.t 14)]) (.trim [0,1,5,15] (.cond (.t 15) .skip (.keep ⟨[(1,0)],[],0⟩ (.exit 0))))) (.trim [0,1,5] (.seq (.block 1 (.seq (.ops [mo 18 0,mo 19 5,ia 20 2 18 19,ln 21 2 20,mo 22 1,ca 23 69 [.t 21,.t 22],mo 1 23]) (.trim [0,1,5] (.seq (.ops [mo 24 1,bn 25 .lss (.t 24) (ki 0)]) (.trim [0,1,5,25] (.cond (.t 25) (.seq (.ops [oo 4 (.mv (ki (-1)))]) (.keep ⟨[(4,0)],[],0⟩ .ret)) .skip)))))) (.trim [0,1,5] (.after (.ops [mo 16 5,bn 17 .add (.t 16) (ki 1),mo 5 17]) ⟨[(0,0),(1,0),(5,0)],[],0⟩)))))
def g92l1_c:TC:=.loop [0,1,5] g92l1_cb
def g92_tf:TFn:=⟨(.seq (.ops [oo 4 (.mv (ki 0))]) (.trim [0,1] (.seq (.ops [mo 6 1,mo 7 0,le 8 7,bn 9 .sub (.t 6) (.t 8),mo 1 9]) (.trim [0,1] (.seq (.seq (.ops [mo 10 1,bn 11 .lss (.t 10) (ki 0)]) (.trim [0,1,11] (.cond (.t 11) (.seq (.ops [oo 4 (.mv (ki (-1)))]) (.keep ⟨[(4,0)],[],0⟩ .ret)) .skip))) (.trim [0,1] (.seq (.seq (.ops [oo 5 (.mv (ki 0))]) (.trim [0,1,5] (.block 0 (.keep ⟨[(0,0),(1,0),(5,0)],[],0⟩ g92l1_c)))) (.trim [1] (.seq (.ops [mo 26 1,mo 4 26]) (.keep ⟨[(4,0)],[],0⟩ .ret)))))))))),[.t 4]⟩
abbrev g92_S:=Sys.on [(69,g117_r)] []
@[reducible,simp] def g92l1_F:((Int) ⊕ (Int)) → Out:=(Sum.elim (fun t=>(.ext 0,[(1,(.int .i64 t))],[])) (fun t=>(.ret,[(4,(.int .i64 t))],[])))
def laws_szPageS_l1_b (v1:List (Int × Str)) (v2:Int) (v3:Int):Option ((Int × Int) ⊕ ((Int) ⊕ (Int))):=if v3 < (v1.length:Int) then if 0 ≤ v3 then (v1[(v3).toNat]?).bind fun x4=>(laws_szPage x4 v2).bind fun r5=>if r5 < 0 then some (.inr (.inr ((-1)))) else some (.inl (r5,(IntKind.i64.wrap (v3 + 1)))) else none else some (.inr (.inl v2))
theorem g92l1_b_eq  (v1:List (Int × Str)) (v2:Int) (v3:Int):X g92_S g92l1_cb (keepEnv [0,1,5] [(0,(.vs (rows v1))),(1,(.int .i64 v2)),(5,(.int .i64 v3))]) [] = (laws_szPageS_l1_b v1 v2 v3).map (Sum.elim (fun s=>(TX.nrm,[(0,(.vs (rows v1))),(1,(.int .i64 s.1)),(5,(.int .i64 s.2))],[])) g92l1_F):=by
  simp (maxSteps:=2000000) (maxDischargeDepth:=8) -implicitDefEqProofs [g92l1_cb,laws_szPageS_l1_b] <;> (try simp only [map_to_bind,g92l1_F])
def laws_szPageS_l1 (v1:List (Int × Str)) (s:Int × Int):Option ((Int) ⊕ (Int)):=loopO (fun s=>laws_szPageS_l1_b v1 s.1 s.2) s
@[simp] theorem g92l1_eq (y0 y1 y2):X g92_S g92l1_c [(0,(.vs (rows y0))),(1,(.int .i64 y1)),(5,(.int .i64 y2))] [] = (laws_szPageS_l1 y0 (y1,y2)).map g92l1_F:=by
  exact loop_X _ _ _ _ (by intro r; first | (simp; done) | (rcases r with r | r <;> simp; done) | (rcases r with r | r | r <;> simp; done) | (rcases r with r | r | r | r <;> simp)) (fun s=>g92l1_b_eq  y0 s.1 s.2) (y1,y2)
def laws_szPageS (a_a:List (Int × Str)) (a_left:Int):Option (Int):=if (IntKind.i64.wrap (a_left - ((a_a.length:Int)))) < 0 then some ((-1)) else (laws_szPageS_l1 a_a (((IntKind.i64.wrap (a_left - ((a_a.length:Int)))),0))).bind fun r6=>Sum.elim (fun u7=>some u7) (fun u8=>some u8) r6
@[simp] def g92_O:Int → TV × List Blk:=fun r=>((.int .i64 r),[])
def g92_E (a:(List (Int × Str)) × Int):List TV:=[(.vs (rows a.1)),(.int .i64 a.2)]
theorem g92_run (a_a:List (Int × Str)) (a_left:Int) :callFn (X g92_S) g92_tf (g92_E (a_a,a_left)) [] = (laws_szPageS a_a a_left).map g92_O:=by
  rw [callFn_eq]
  simp (maxSteps:=2000000) (maxDischargeDepth:=8) -implicitDefEqProofs [g92_tf,laws_szPageS,g92_E] <;> (try simp only [map_to_bind,g92_O])
def g92_r:Rule:=RlO g92_E (fun a=>laws_szPageS a.1 a.2) g92_O
theorem g92_ok:RuleOk Tryz.prog 30 g92_r:=ok_rlo (S:=g92_S) (tf:=g92_tf) (SysOk.on ⟨g117_ok,trivial⟩ trivial) (trE_ok (ks:=[[0,1,5]]) Tryz.func30 (by kernel_rfl)) fun a=>g92_run a.1 a.2
@[simp] theorem g92_app (y0 y1):g92_r [(.vs (rows y0)),(.int .i64 y1)] = (laws_szPageS y0 y1).map g92_O :=
  RlO_app (enc:=g92_E) (by intro a b h; simp [g92_E,Prod.ext_iff] at h ⊢; simp [h]) (y0,y1)
/-! laws.szPager -/
def g93_tf:TFn:=⟨(.seq (.ops [bx 2 0,oo 4 (.mv (ki 0))]) (.trim [1,2] (.seq (.ops [fa 5 0 2,ln 6 4 5,mo 7 1,ca 8 29 [.t 6,.t 7],mo 1 8]) (.trim [1,2] (.seq (.seq (.ops [mo 9 1,bn 10 .lss (.t 9) (ki 0)]) (.trim [1,2,10] (.cond (.t 10) (.seq (.ops [oo 4 (.mv (ki (-1)))]) (.keep ⟨[(4,0)],[],0⟩ .ret)) .skip))) (.trim [1,2] (.seq (.ops [fa 11 10 2,ld 12 11,mo 13 1,ca 14 30 [.t 12,.t 13],mo 1 14]) (.trim [1,2] (.seq (.seq (.ops [mo 15 1,bn 16 .lss (.t 15) (ki 0)]) (.trim [1,2,16] (.cond (.t 16) (.seq (.ops [oo 4 (.mv (ki (-1)))]) (.keep ⟨[(4,0)],[],0⟩ .ret)) .skip))) (.trim [1,2] (.seq (.ops [fa 17 11 2,ld 18 17,mo 19 1,ca 20 30 [.t 18,.t 19],mo 1 20]) (.trim [1] (.seq (.seq (.ops [mo 21 1,bn 22 .lss (.t 21) (ki 0)]) (.trim [1,22] (.cond (.t 22) (.seq (.ops [oo 4 (.mv (ki (-1)))]) (.keep ⟨[(4,0)],[],0⟩ .ret)) .skip))) (.trim [1] (.seq (.ops [mo 23 1,mo 4 23]) (.keep ⟨[(4,0)],[],0⟩ .ret)))))))))))))))),[.t 4]⟩
abbrev g93_S:=Sys.on [(29,g116_r),(30,g92_r)] []
def laws_szPager (a_a:K1) (a_left:Int):Option (Int):=(laws_szDisk a_a.1 a_left).bind fun r1=>if r1 < 0 then some ((-1)) else (laws_szPageS a_a.2.2.2.2.1 r1).bind fun r2=>if r2 < 0 then some ((-1)) else (laws_szPageS a_a.2.2.2.2.2 r2).bind fun r3=>if r3 < 0 then some ((-1)) else some r3
@[simp] def g93_O:Int → TV × List Blk:=fun r=>((.int .i64 r),[])
def g93_E (a:K1 × Int):List TV:=[(.agg [(.vs (rows a.1.1.1)),(.vs (rows a.1.1.2.1)),(.int .i64 a.1.1.2.2.1),(.bool a.1.1.2.2.2),(.int .i64 a.1.2.1.1),(.int .i64 a.1.2.1.2.1),(.int .i64 a.1.2.1.2.2.1),(.int .i64 a.1.2.1.2.2.2),(.int .i64 a.1.2.2.1),(.int .i64 a.1.2.2.2.1),(.vs (rows a.1.2.2.2.2.1)),(.vs (rows a.1.2.2.2.2.2))]),(.int .i64 a.2)]
theorem g93_run (a_a:K1) (a_left:Int) :callFn (X g93_S) g93_tf (g93_E (a_a,a_left)) [] = (laws_szPager a_a a_left).map g93_O:=by
  rw [callFn_eq]
  simp (maxSteps:=2000000) (maxDischargeDepth:=8) -implicitDefEqProofs [g93_tf,laws_szPager,g93_E] <;> (try simp only [map_to_bind,g93_O])
def g93_r:Rule:=RlO g93_E (fun a=>laws_szPager a.1 a.2) g93_O
theorem g93_ok:RuleOk Tryz.prog 7 g93_r:=ok_rlo (S:=g93_S) (tf:=g93_tf) (SysOk.on ⟨g116_ok,g92_ok,trivial⟩ trivial) (trE_ok (ks:=[]) Tryz.func7 (by kernel_rfl)) fun a=>g93_run a.1 a.2
@[simp] theorem g93_app (y0 y1 y2 y3 y4 y5 y6 y7 y8 y9 y10 y11 y12):g93_r [(.agg [(.vs (rows y0)),(.vs (rows y1)),(.int .i64 y2),(.bool y3),(.int .i64 y4),(.int .i64 y5),(.int .i64 y6),(.int .i64 y7),(.int .i64 y8),(.int .i64 y9),(.vs (rows y10)),(.vs (rows y11))]),(.int .i64 y12)] = (laws_szPager (((y0,y1,y2,y3),(y4,y5,y6,y7),y8,y9,y10,y11)) y12).map g93_O :=
  RlO_app (enc:=g93_E) (by intro a b h; simp [g93_E,Prod.ext_iff] at h ⊢; simp [h]) (((y0,y1,y2,y3),(y4,y5,y6,y7),y8,y9,y10,y11),y12)
/-! laws.toStringS -/
def g65l1_cb:TC:=(.seq (.seq (.ops [mo 8 4,mo 9 0,le 10 9,bn 11 .lss (.t 8) (.t 10)]) (.trim [0,3,4,11] (.cond (.t 11) .skip (.keep ⟨[(3,1)],[(0,1)],0⟩ (.exit 0))))) (.trim [0,3,4] (.seq (.block 1 (.ops [mo 14 3,mo 15 4,mo 16 0,mo 17 4,ia 18 1 16 17,ld 19 18,ia 20 1 14 15,⟨none,none,(.store 1 (.t 20) (.t 19))⟩])) (.trim [0,3,4] (.after (.ops [mo 12 4,bn 13 .add (.t 12) (ki 1),mo 4 13]) ⟨[(0,0),(3,1),(4,0)],[(0,1)],0⟩)))))
def g65l1_c:TC:=.loop [0,3,4] g65l1_cb
def g65_tf:TFn:=⟨(.seq (.ops [oo 2 (.mv (.c .nils))]) (.trim [0] (.seq (.ops [mo 5 0,le 6 5,oo 7 (.mkslice 16 [(.str [])] (.t 6) (.t 6)),mo 3 7]) (.trim [0,3] (.seq (.seq (.ops [oo 4 (.mv (ki 0))]) (.trim [0,3,4] (.block 0 (.keep ⟨[(0,0),(3,1),(4,0)],[(0,1)],0⟩ g65l1_c)))) (.trim [3] (.seq (.ops [mo 21 3,mo 2 21]) (.keep ⟨[(2,1)],[(0,1)],0⟩ .ret)))))))),[.t 2]⟩
abbrev g65_S:=Sys.on [] []
@[reducible,simp] def g65l1_F:(List Str) → Out:=(fun t=>(.ext 0,[(3,(ow 0 t.length))],[(ob 1 t)]))
def laws_toStringS_l1_b (v2:List Str) (v3:List Str) (v4:Int):Option ((List Str × Int) ⊕ (List Str)):=if v4 < (v2.length:Int) then if 0 ≤ v4 then (v2[(v4).toNat]?).bind fun x5=>if 0 ≤ v4 ∧ v4 < ((v3.length:Nat):Int) then (v3[(v4).toNat]?).bind fun x6=>some (.inl ((v3.set (v4).toNat x5),(IntKind.i64.wrap (v4 + 1)))) else none else none else some (.inr v3)
theorem g65l1_b_eq  (v2:List Str) (v3:List Str) (v4:Int):X g65_S g65l1_cb (keepEnv [0,3,4] [(0,(.vs (rows v2))),(3,(ow 0 v3.length)),(4,(.int .i64 v4))]) [(ob 1 v3)] = (laws_toStringS_l1_b v2 v3 v4).map (Sum.elim (fun s=>(TX.nrm,[(0,(.vs (rows v2))),(3,(ow 0 s.1.length)),(4,(.int .i64 s.2))],[(ob 1 s.1)])) g65l1_F):=by
  simp (maxSteps:=2000000) (maxDischargeDepth:=8) -implicitDefEqProofs [g65l1_cb,laws_toStringS_l1_b,mksliceV_typed (z:=(([]:Str):Str)) (zs:=[(.str [])]) rfl (by decide)] <;> (try simp only [map_to_bind,g65l1_F])
def laws_toStringS_l1 (v2:List Str) (s:List Str × Int):Option (List Str):=loopO (fun s=>laws_toStringS_l1_b v2 s.1 s.2) s
@[simp] theorem g65l1_eq (y0)(y1:List Str)(y2){n1:Nat}(h1:n1 = y1.length):X g65_S g65l1_c [(0,(.vs (rows y0))),(3,(ow 0 n1)),(4,(.int .i64 y2))] [(ob 1 y1)] = (laws_toStringS_l1 y0 (y1,y2)).map g65l1_F:=by
  subst h1
  exact loop_X _ _ _ _ (by intro r; first | (simp; done) | (rcases r with r | r <;> simp; done) | (rcases r with r | r | r <;> simp; done) | (rcases r with r | r | r | r <;> simp)) (fun s=>g65l1_b_eq  y0 s.1 s.2) (y1,y2)
def laws_toStringS (a_a:List Str):Option (List Str):=(mkL 16 ((a_a.length:Int)) ((a_a.length:Int)) (([]:Str):Str)).bind fun l1=>(laws_toStringS_l1 a_a ((l1,0))).bind fun r7=>some r7
@[simp] def g65_O:List Str → TV × List Blk:=fun r=>((ow 0 r.length),[(ob 1 r)])
def g65_E (a:List Str):List TV:=[(.vs (rows a))]
theorem g65_run (a_a:List Str) :callFn (X g65_S) g65_tf (g65_E a_a) [] = (laws_toStringS a_a).map g65_O:=by
  rw [callFn_eq]
  simp (maxSteps:=2000000) (maxDischargeDepth:=8) -implicitDefEqProofs [g65_tf,laws_toStringS,g65_E,mksliceV_typed (z:=(([]:Str):Str)) (zs:=[(.str [])]) rfl (by decide)] <;> (try simp only [map_to_bind,g65_O])
def g65_r:Rule:=RlO g65_E (fun a=>laws_toStringS a) g65_O
theorem g65_ok:RuleOk Tryz.prog 84 g65_r:=ok_rlo (S:=g65_S) (tf:=g65_tf) (SysOk.on trivial trivial) (trE_ok (ks:=[[0,3,4]]) Tryz.func84 (by kernel_rfl)) fun a=>g65_run a
@[simp] theorem g65_app (y0):g65_r [(.vs (rows y0))] = (laws_toStringS y0).map g65_O :=
  RlO_app (enc:=g65_E) (by intro a b h; simp [g65_E,Prod.ext_iff] at h ⊢; simp [h]) y0
/-! laws.toPut -/
def g135_tf:TFn:=⟨(.seq (.ops [bx 1 0,oo 2 (.alloc [(.int .i64 0),(.str [])])]) (.trim [1,2] (.seq (.ops [oo 3 (.alloc [(.int .i64 0),(.str [])])]) (.trim [1,2,3] (.seq (.ops [fa 4 0 1,ld 5 4,fa 6 0 3,⟨none,none,(.store 1 (.t 6) (.t 5))⟩]) (.trim [1,2,3] (.seq (.ops [fa 7 1 1,ld 8 7,fa 9 1 3,⟨none,none,(.store 1 (.t 9) (.t 8))⟩]) (.trim [2,3] (.seq (.ops [ln 10 2 3,⟨none,none,(.store 2 (.t 2) (.t 10))⟩]) (.keep ⟨[(2,0)],[(1,0)],0⟩ .ret)))))))))),[.cell 2 (some 2)]⟩
abbrev g135_S:=Sys.on [] []
def laws_toPut (a_a:Int × Str):Option ((Int × Str)):=some a_a
@[simp] def g135_O:((Int × Str)) → TV × List Blk:=fun r=>((.agg [(.int .i64 r.1),(.str r.2)]),[(.live 2 [[(.int .i64 r.1),(.str r.2)]])])
def g135_E (a:(Int × Str)):List TV:=[(.agg [(.int .i64 a.1),(.str a.2)])]
theorem g135_run (a_a:Int × Str) :callFn (X g135_S) g135_tf (g135_E a_a) [] = (laws_toPut a_a).map g135_O:=by
  rw [callFn_eq]
  simp (maxSteps:=2000000) (maxDischargeDepth:=8) -implicitDefEqProofs [g135_tf,laws_toPut,g135_E] <;> (try simp only [map_to_bind,g135_O])
def g135_r:Rule:=RlO g135_E (fun a=>laws_toPut a) g135_O
theorem g135_ok:RuleOk Tryz.prog 129 g135_r:=ok_rlo (S:=g135_S) (tf:=g135_tf) (SysOk.on trivial trivial) (trE_ok (ks:=[]) Tryz.func129 (by kernel_rfl)) fun a=>g135_run a
@[simp] theorem g135_app (y0 y1):g135_r [(.agg [(.int .i64 y0),(.str y1)])] = (laws_toPut ((y0,y1))).map g135_O :=
  RlO_app (enc:=g135_E) (by intro a b h; simp [g135_E,Prod.ext_iff] at h ⊢; simp [h]) ((y0,y1))
/-! laws.toPutS -/
def g118l1_cb:TC:=(.seq (.seq (.ops [mo 8 4,mo 9 0,le 10 9,bn 11 .lss (.t 8) (.t 10)]) (.trim [0,3,4,11] (.cond (.t 11) .skip (.keep ⟨[(3,1)],[(0,1)],0⟩ (.exit 0))))) (.trim [0,3,4] (.seq (.block 1 (.ops [mo 14 3,mo 15 4,mo 16 0,mo 17 4,ia 18 2 16 17,ln 19 2 18,ca 20 129 [.t 19],ia 21 2 14 15,⟨none,none,(.store 2 (.t 21) (.t 20))⟩])) (.trim [0,3,4] (.after (.ops [mo 12 4,bn 13 .add (.t 12) (ki 1),mo 4 13]) ⟨[(0,0),(3,1),(4,0)],[(0,1)],0⟩)))))
def g118l1_c:TC:=.loop [0,3,4] g118l1_cb
def g118_tf:TFn:=⟨(.seq (.ops [oo 2 (.mv (.c .nils))]) (.trim [0] (.seq (.ops [mo 5 0,le 6 5,oo 7 (.mkslice 24 [(.int .i64 0),(.str [])] (.t 6) (.t 6)),mo 3 7]) (.trim [0,3] (.seq (.seq (.ops [oo 4 (.mv (ki 0))]) (.trim [0,3,4] (.block 0 (.keep ⟨[(0,0),(3,1),(4,0)],[(0,1)],0⟩ g118l1_c)))) (.trim [3] (.seq (.ops [mo 22 3,mo 2 22]) (.keep ⟨[(2,1)],[(0,1)],0⟩ .ret)))))))),[.t 2]⟩
abbrev g118_S:=Sys.on [(129,g135_r)] []
@[reducible,simp] def g118l1_F:((List (Int × Str))) → Out:=(fun t=>(.ext 0,[(3,(ow 0 t.length))],[(ob 2 t)]))
def laws_toPutS_l1_b (v2:List (Int × Str)) (v3:List (Int × Str)) (v4:Int):Option (((List (Int × Str)) × Int) ⊕ ((List (Int × Str)))):=if v4 < (v2.length:Int) then if 0 ≤ v4 then (v2[(v4).toNat]?).bind fun x5=>(laws_toPut x5).bind fun r6=>if 0 ≤ v4 ∧ v4 < ((v3.length:Nat):Int) then (v3[(v4).toNat]?).bind fun x7=>some (.inl ((v3.set (v4).toNat (r6.1,r6.2)),(IntKind.i64.wrap (v4 + 1)))) else none else none else some (.inr v3)
theorem g118l1_b_eq  (v2:List (Int × Str)) (v3:List (Int × Str)) (v4:Int):X g118_S g118l1_cb (keepEnv [0,3,4] [(0,(.vs (rows v2))),(3,(ow 0 v3.length)),(4,(.int .i64 v4))]) [(ob 2 v3)] = (laws_toPutS_l1_b v2 v3 v4).map (Sum.elim (fun s=>(TX.nrm,[(0,(.vs (rows v2))),(3,(ow 0 s.1.length)),(4,(.int .i64 s.2))],[(ob 2 s.1)])) g118l1_F):=by
  simp (maxSteps:=2000000) (maxDischargeDepth:=8) -implicitDefEqProofs [g118l1_cb,laws_toPutS_l1_b,mksliceV_typed (z:=((0,([]:Str)):Int × Str)) (zs:=[(.int .i64 0),(.str [])]) rfl (by decide)] <;> (try simp only [map_to_bind,g118l1_F])
def laws_toPutS_l1 (v2:List (Int × Str)) (s:(List (Int × Str)) × Int):Option ((List (Int × Str))):=loopO (fun s=>laws_toPutS_l1_b v2 s.1 s.2) s
@[simp] theorem g118l1_eq (y0)(y1:List (Int × Str))(y2){n1:Nat}(h1:n1 = y1.length):X g118_S g118l1_c [(0,(.vs (rows y0))),(3,(ow 0 n1)),(4,(.int .i64 y2))] [(ob 2 y1)] = (laws_toPutS_l1 y0 (y1,y2)).map g118l1_F:=by
  subst h1
  exact loop_X _ _ _ _ (by intro r; first | (simp; done) | (rcases r with r | r <;> simp; done) | (rcases r with r | r | r <;> simp; done) | (rcases r with r | r | r | r <;> simp)) (fun s=>g118l1_b_eq  y0 s.1 s.2) (y1,y2)
def laws_toPutS (a_a:List (Int × Str)):Option ((List (Int × Str))):=(mkL 24 ((a_a.length:Int)) ((a_a.length:Int)) ((0,([]:Str)):Int × Str)).bind fun l1=>(laws_toPutS_l1 a_a ((l1,0))).bind fun r8=>some r8
@[simp] def g118_O:((List (Int × Str))) → TV × List Blk:=fun r=>((ow 0 r.length),[(ob 2 r)])
def g118_E (a:(List (Int × Str))):List TV:=[(.vs (rows a))]
theorem g118_run (a_a:List (Int × Str)) :callFn (X g118_S) g118_tf (g118_E a_a) [] = (laws_toPutS a_a).map g118_O:=by
  rw [callFn_eq]
  simp (maxSteps:=2000000) (maxDischargeDepth:=8) -implicitDefEqProofs [g118_tf,laws_toPutS,g118_E,mksliceV_typed (z:=((0,([]:Str)):Int × Str)) (zs:=[(.int .i64 0),(.str [])]) rfl (by decide)] <;> (try simp only [map_to_bind,g118_O])
def g118_r:Rule:=RlO g118_E (fun a=>laws_toPutS a) g118_O
theorem g118_ok:RuleOk Tryz.prog 85 g118_r:=ok_rlo (S:=g118_S) (tf:=g118_tf) (SysOk.on ⟨g135_ok,trivial⟩ trivial) (trE_ok (ks:=[[0,3,4]]) Tryz.func85 (by kernel_rfl)) fun a=>g118_run a
@[simp] theorem g118_app (y0):g118_r [(.vs (rows y0))] = (laws_toPutS y0).map g118_O :=
  RlO_app (enc:=g118_E) (by intro a b h; simp [g118_E,Prod.ext_iff] at h ⊢; simp [h]) y0
/-! laws.toDisk -/
def g119_tf:TFn:=⟨(.seq (.ops [bx 1 0,oo 2 (.alloc [.nils,.nils,(.int .i64 0),(.bool false)])]) (.trim [1,2] (.seq (.ops [oo 3 (.alloc [.nils,.nils,(.int .i64 0),(.bool false)])]) (.trim [1,2,3] (.seq (.ops [fa 4 0 1,ld 5 4,ca 6 84 [.t 5],fa 7 0 3,⟨none,none,(.store 1 (.t 7) (.t 6))⟩]) (.trim [1,2,3] (.seq (.ops [fa 8 1 1,ld 9 8,ca 10 85 [.t 9],fa 11 1 3,⟨none,none,(.store 1 (.t 11) (.t 10))⟩]) (.trim [1,2,3] (.seq (.ops [fa 12 2 1,ld 13 12,fa 14 2 3,⟨none,none,(.store 1 (.t 14) (.t 13))⟩]) (.trim [1,2,3] (.seq (.ops [fa 15 3 1,ld 16 15,fa 17 3 3,⟨none,none,(.store 1 (.t 17) (.t 16))⟩]) (.trim [2,3] (.seq (.ops [ln 18 4 3,⟨none,none,(.store 4 (.t 2) (.t 18))⟩]) (.keep ⟨[(2,0)],[(1,2),(3,1),(4,1)],0⟩ .ret)))))))))))))),[.cell 2 (some 4)]⟩
abbrev g119_S:=Sys.on [(84,g65_r),(85,g118_r)] []
def laws_toDisk (a_a:K0):Option (K0):=(laws_toStringS a_a.1).bind fun r1=>(laws_toPutS a_a.2.1).bind fun r2=>some ((r1,r2,a_a.2.2.1,a_a.2.2.2))
@[simp] def g119_O:(K0) → TV × List Blk:=fun r=>((.agg [(ow 1 r.1.length),(ow 2 r.2.1.length),(.int .i64 r.2.2.1),(.bool r.2.2.2)]),[(.live 4 [[(ow 1 r.1.length),(ow 2 r.2.1.length),(.int .i64 r.2.2.1),(.bool r.2.2.2)]]),(ob 1 r.1),(ob 2 r.2.1)])
def g119_E (a:K0):List TV:=[(.agg [(.vs (rows a.1)),(.vs (rows a.2.1)),(.int .i64 a.2.2.1),(.bool a.2.2.2)])]
theorem g119_run (a_a:K0) :callFn (X g119_S) g119_tf (g119_E a_a) [] = (laws_toDisk a_a).map g119_O:=by
  rw [callFn_eq]
  simp (maxSteps:=2000000) (maxDischargeDepth:=8) -implicitDefEqProofs [g119_tf,laws_toDisk,g119_E] <;> (try simp only [map_to_bind,g119_O])
def g119_r:Rule:=RlO g119_E (fun a=>laws_toDisk a) g119_O
theorem g119_ok:RuleOk Tryz.prog 34 g119_r:=ok_rlo (S:=g119_S) (tf:=g119_tf) (SysOk.on ⟨g65_ok,g118_ok,trivial⟩ trivial) (trE_ok (ks:=[]) Tryz.func34 (by kernel_rfl)) fun a=>g119_run a
@[simp] theorem g119_app (y0 y1 y2 y3):g119_r [(.agg [(.vs (rows y0)),(.vs (rows y1)),(.int .i64 y2),(.bool y3)])] = (laws_toDisk ((y0,y1,y2,y3))).map g119_O :=
  RlO_app (enc:=g119_E) (by intro a b h; simp [g119_E,Prod.ext_iff] at h ⊢; simp [h]) ((y0,y1,y2,y3))
/-! laws.toSuper -/
def g94_tf:TFn:=⟨(.seq (.ops [bx 1 0,oo 2 (.alloc [(.int .i64 0),(.int .i64 0),(.int .i64 0),(.int .i64 0)])]) (.trim [1,2] (.seq (.ops [oo 3 (.alloc [(.int .i64 0),(.int .i64 0),(.int .i64 0),(.int .i64 0)])]) (.trim [1,2,3] (.seq (.ops [fa 4 0 1,ld 5 4,fa 6 0 3,⟨none,none,(.store 1 (.t 6) (.t 5))⟩]) (.trim [1,2,3] (.seq (.ops [fa 7 1 1,ld 8 7,fa 9 1 3,⟨none,none,(.store 1 (.t 9) (.t 8))⟩]) (.trim [1,2,3] (.seq (.ops [fa 10 2 1,ld 11 10,fa 12 2 3,⟨none,none,(.store 1 (.t 12) (.t 11))⟩]) (.trim [1,2,3] (.seq (.ops [fa 13 3 1,ld 14 13,fa 15 3 3,⟨none,none,(.store 1 (.t 15) (.t 14))⟩]) (.trim [2,3] (.seq (.ops [ln 16 4 3,⟨none,none,(.store 4 (.t 2) (.t 16))⟩]) (.keep ⟨[(2,0)],[(1,0)],0⟩ .ret)))))))))))))),[.cell 2 (some 4)]⟩
abbrev g94_S:=Sys.on [] []
def laws_toSuper (a_a:Int × Int × Int × Int):Option ((Int × Int × Int × Int)):=some a_a
@[simp] def g94_O:((Int × Int × Int × Int)) → TV × List Blk:=fun r=>((.agg [(.int .i64 r.1),(.int .i64 r.2.1),(.int .i64 r.2.2.1),(.int .i64 r.2.2.2)]),[(.live 4 [[(.int .i64 r.1),(.int .i64 r.2.1),(.int .i64 r.2.2.1),(.int .i64 r.2.2.2)]])])
def g94_E (a:(Int × Int × Int × Int)):List TV:=[(.agg [(.int .i64 a.1),(.int .i64 a.2.1),(.int .i64 a.2.2.1),(.int .i64 a.2.2.2)])]
theorem g94_run (a_a:Int × Int × Int × Int) :callFn (X g94_S) g94_tf (g94_E a_a) [] = (laws_toSuper a_a).map g94_O:=by
  rw [callFn_eq]
  simp (maxSteps:=2000000) (maxDischargeDepth:=8) -implicitDefEqProofs [g94_tf,laws_toSuper,g94_E] <;> (try simp only [map_to_bind,g94_O])
def g94_r:Rule:=RlO g94_E (fun a=>laws_toSuper a) g94_O
theorem g94_ok:RuleOk Tryz.prog 35 g94_r:=ok_rlo (S:=g94_S) (tf:=g94_tf) (SysOk.on trivial trivial) (trE_ok (ks:=[]) Tryz.func35 (by kernel_rfl)) fun a=>g94_run a
@[simp] theorem g94_app (y0 y1 y2 y3):g94_r [(.agg [(.int .i64 y0),(.int .i64 y1),(.int .i64 y2),(.int .i64 y3)])] = (laws_toSuper ((y0,y1,y2,y3))).map g94_O :=
  RlO_app (enc:=g94_E) (by intro a b h; simp [g94_E,Prod.ext_iff] at h ⊢; simp [h]) ((y0,y1,y2,y3))
/-! laws.toPage -/
def g120_tf:TFn:=⟨(.seq (.ops [bx 1 0,oo 2 (.alloc [(.int .i64 0),(.str [])])]) (.trim [1,2] (.seq (.ops [oo 3 (.alloc [(.int .i64 0),(.str [])])]) (.trim [1,2,3] (.seq (.ops [fa 4 0 1,ld 5 4,fa 6 0 3,⟨none,none,(.store 1 (.t 6) (.t 5))⟩]) (.trim [1,2,3] (.seq (.ops [fa 7 1 1,ld 8 7,fa 9 1 3,⟨none,none,(.store 1 (.t 9) (.t 8))⟩]) (.trim [2,3] (.seq (.ops [ln 10 2 3,⟨none,none,(.store 2 (.t 2) (.t 10))⟩]) (.keep ⟨[(2,0)],[(1,0)],0⟩ .ret)))))))))),[.cell 2 (some 2)]⟩
abbrev g120_S:=Sys.on [] []
def laws_toPage (a_a:Int × Str):Option ((Int × Str)):=some a_a
@[simp] def g120_O:((Int × Str)) → TV × List Blk:=fun r=>((.agg [(.int .i64 r.1),(.str r.2)]),[(.live 2 [[(.int .i64 r.1),(.str r.2)]])])
def g120_E (a:(Int × Str)):List TV:=[(.agg [(.int .i64 a.1),(.str a.2)])]
theorem g120_run (a_a:Int × Str) :callFn (X g120_S) g120_tf (g120_E a_a) [] = (laws_toPage a_a).map g120_O:=by
  rw [callFn_eq]
  simp (maxSteps:=2000000) (maxDischargeDepth:=8) -implicitDefEqProofs [g120_tf,laws_toPage,g120_E] <;> (try simp only [map_to_bind,g120_O])
def g120_r:Rule:=RlO g120_E (fun a=>laws_toPage a) g120_O
theorem g120_ok:RuleOk Tryz.prog 86 g120_r:=ok_rlo (S:=g120_S) (tf:=g120_tf) (SysOk.on trivial trivial) (trE_ok (ks:=[]) Tryz.func86 (by kernel_rfl)) fun a=>g120_run a
@[simp] theorem g120_app (y0 y1):g120_r [(.agg [(.int .i64 y0),(.str y1)])] = (laws_toPage ((y0,y1))).map g120_O :=
  RlO_app (enc:=g120_E) (by intro a b h; simp [g120_E,Prod.ext_iff] at h ⊢; simp [h]) ((y0,y1))
/-! laws.toPageS -/
def g95l1_cb:TC:=(.seq (.seq (.ops [mo 8 4,mo 9 0,le 10 9,bn 11 .lss (.t 8) (.t 10)]) (.trim [0,3,4,11] (.cond (.t 11) .skip (.keep ⟨[(3,1)],[(0,1)],0⟩ (.exit 0))))) (.trim [0,3,4] (.seq (.block 1 (.ops [mo 14 3,mo 15 4,mo 16 0,mo 17 4,ia 18 2 16 17,ln 19 2 18,ca 20 86 [.t 19],ia 21 2 14 15,⟨none,none,(.store 2 (.t 21) (.t 20))⟩])) (.trim [0,3,4] (.after (.ops [mo 12 4,bn 13 .add (.t 12) (ki 1),mo 4 13]) ⟨[(0,0),(3,1),(4,0)],[(0,1)],0⟩)))))
def g95l1_c:TC:=.loop [0,3,4] g95l1_cb
def g95_tf:TFn:=⟨(.seq (.ops [oo 2 (.mv (.c .nils))]) (.trim [0] (.seq (.ops [mo 5 0,le 6 5,oo 7 (.mkslice 24 [(.int .i64 0),(.str [])] (.t 6) (.t 6)),mo 3 7]) (.trim [0,3] (.seq (.seq (.ops [oo 4 (.mv (ki 0))]) (.trim [0,3,4] (.block 0 (.keep ⟨[(0,0),(3,1),(4,0)],[(0,1)],0⟩ g95l1_c)))) (.trim [3] (.seq (.ops [mo 22 3,mo 2 22]) (.keep ⟨[(2,1)],[(0,1)],0⟩ .ret)))))))),[.t 2]⟩
abbrev g95_S:=Sys.on [(86,g120_r)] []
@[reducible,simp] def g95l1_F:((List (Int × Str))) → Out:=(fun t=>(.ext 0,[(3,(ow 0 t.length))],[(ob 2 t)]))
def laws_toPageS_l1_b (v2:List (Int × Str)) (v3:List (Int × Str)) (v4:Int):Option (((List (Int × Str)) × Int) ⊕ ((List (Int × Str)))):=if v4 < (v2.length:Int) then if 0 ≤ v4 then (v2[(v4).toNat]?).bind fun x5=>(laws_toPage x5).bind fun r6=>if 0 ≤ v4 ∧ v4 < ((v3.length:Nat):Int) then (v3[(v4).toNat]?).bind fun x7=>some (.inl ((v3.set (v4).toNat (r6.1,r6.2)),(IntKind.i64.wrap (v4 + 1)))) else none else none else some (.inr v3)
theorem g95l1_b_eq  (v2:List (Int × Str)) (v3:List (Int × Str)) (v4:Int):X g95_S g95l1_cb (keepEnv [0,3,4] [(0,(.vs (rows v2))),(3,(ow 0 v3.length)),(4,(.int .i64 v4))]) [(ob 2 v3)] = (laws_toPageS_l1_b v2 v3 v4).map (Sum.elim (fun s=>(TX.nrm,[(0,(.vs (rows v2))),(3,(ow 0 s.1.length)),(4,(.int .i64 s.2))],[(ob 2 s.1)])) g95l1_F):=by
  simp (maxSteps:=2000000) (maxDischargeDepth:=8) -implicitDefEqProofs [g95l1_cb,laws_toPageS_l1_b,mksliceV_typed (z:=((0,([]:Str)):Int × Str)) (zs:=[(.int .i64 0),(.str [])]) rfl (by decide)] <;> (try simp only [map_to_bind,g95l1_F])
def laws_toPageS_l1 (v2:List (Int × Str)) (s:(List (Int × Str)) × Int):Option ((List (Int × Str))):=loopO (fun s=>laws_toPageS_l1_b v2 s.1 s.2) s
@[simp] theorem g95l1_eq (y0)(y1:List (Int × Str))(y2){n1:Nat}(h1:n1 = y1.length):X g95_S g95l1_c [(0,(.vs (rows y0))),(3,(ow 0 n1)),(4,(.int .i64 y2))] [(ob 2 y1)] = (laws_toPageS_l1 y0 (y1,y2)).map g95l1_F:=by
  subst h1
  exact loop_X _ _ _ _ (by intro r; first | (simp; done) | (rcases r with r | r <;> simp; done) | (rcases r with r | r | r <;> simp; done) | (rcases r with r | r | r | r <;> simp)) (fun s=>g95l1_b_eq  y0 s.1 s.2) (y1,y2)
def laws_toPageS (a_a:List (Int × Str)):Option ((List (Int × Str))):=(mkL 24 ((a_a.length:Int)) ((a_a.length:Int)) ((0,([]:Str)):Int × Str)).bind fun l1=>(laws_toPageS_l1 a_a ((l1,0))).bind fun r8=>some r8
@[simp] def g95_O:((List (Int × Str))) → TV × List Blk:=fun r=>((ow 0 r.length),[(ob 2 r)])
def g95_E (a:(List (Int × Str))):List TV:=[(.vs (rows a))]
theorem g95_run (a_a:List (Int × Str)) :callFn (X g95_S) g95_tf (g95_E a_a) [] = (laws_toPageS a_a).map g95_O:=by
  rw [callFn_eq]
  simp (maxSteps:=2000000) (maxDischargeDepth:=8) -implicitDefEqProofs [g95_tf,laws_toPageS,g95_E,mksliceV_typed (z:=((0,([]:Str)):Int × Str)) (zs:=[(.int .i64 0),(.str [])]) rfl (by decide)] <;> (try simp only [map_to_bind,g95_O])
def g95_r:Rule:=RlO g95_E (fun a=>laws_toPageS a) g95_O
theorem g95_ok:RuleOk Tryz.prog 36 g95_r:=ok_rlo (S:=g95_S) (tf:=g95_tf) (SysOk.on ⟨g120_ok,trivial⟩ trivial) (trE_ok (ks:=[[0,3,4]]) Tryz.func36 (by kernel_rfl)) fun a=>g95_run a
@[simp] theorem g95_app (y0):g95_r [(.vs (rows y0))] = (laws_toPageS y0).map g95_O :=
  RlO_app (enc:=g95_E) (by intro a b h; simp [g95_E,Prod.ext_iff] at h ⊢; simp [h]) y0
/-! laws.toPager -/
def g96_tf:TFn:=⟨(.seq (.ops [bx 1 0,oo 2 (.alloc [.nils,.nils,(.int .i64 0),(.bool false),(.int .i64 0),(.int .i64 0),(.int .i64 0),(.int .i64 0),(.int .i64 0),(.int .i64 0),.nils,.nils])]) (.trim [1,2] (.seq (.ops [oo 3 (.alloc [.nils,.nils,(.int .i64 0),(.bool false),(.int .i64 0),(.int .i64 0),(.int .i64 0),(.int .i64 0),(.int .i64 0),(.int .i64 0),.nils,.nils])]) (.trim [1,2,3] (.seq (.ops [fa 4 0 1,ln 5 4 4,ca 6 34 [.t 5],fa 7 0 3,⟨none,none,(.store 4 (.t 7) (.t 6))⟩]) (.trim [1,2,3] (.seq (.ops [fa 8 4 1,ln 9 4 8,ca 10 35 [.t 9],fa 11 4 3,⟨none,none,(.store 4 (.t 11) (.t 10))⟩]) (.trim [1,2,3] (.seq (.ops [fa 12 8 1,ld 13 12,fa 14 8 3,⟨none,none,(.store 1 (.t 14) (.t 13))⟩]) (.trim [1,2,3] (.seq (.ops [fa 15 9 1,ld 16 15,fa 17 9 3,⟨none,none,(.store 1 (.t 17) (.t 16))⟩]) (.trim [1,2,3] (.seq (.ops [fa 18 10 1,ld 19 18,ca 20 36 [.t 19],fa 21 10 3,⟨none,none,(.store 1 (.t 21) (.t 20))⟩]) (.trim [1,2,3] (.seq (.ops [fa 22 11 1,ld 23 22,ca 24 36 [.t 23],fa 25 11 3,⟨none,none,(.store 1 (.t 25) (.t 24))⟩]) (.trim [2,3] (.seq (.ops [ln 26 12 3,⟨none,none,(.store 12 (.t 2) (.t 26))⟩]) (.keep ⟨[(2,0)],[(1,2),(4,1),(5,1),(7,1),(8,1)],0⟩ .ret)))))))))))))))))),[.cell 2 (some 12)]⟩
abbrev g96_S:=Sys.on [(34,g119_r),(35,g94_r),(36,g95_r)] []
def laws_toPager (a_a:K1):Option (K1):=(laws_toDisk a_a.1).bind fun r1=>(laws_toSuper a_a.2.1).bind fun r2=>(laws_toPageS a_a.2.2.2.2.1).bind fun r3=>(laws_toPageS a_a.2.2.2.2.2).bind fun r4=>some ((r1,r2,a_a.2.2.1,a_a.2.2.2.1,r3,r4))
@[simp] def g96_O:(K1) → TV × List Blk:=fun r=>((.agg [(ow 1 r.1.1.length),(ow 2 r.1.2.1.length),(.int .i64 r.1.2.2.1),(.bool r.1.2.2.2),(.int .i64 r.2.1.1),(.int .i64 r.2.1.2.1),(.int .i64 r.2.1.2.2.1),(.int .i64 r.2.1.2.2.2),(.int .i64 r.2.2.1),(.int .i64 r.2.2.2.1),(ow 3 r.2.2.2.2.1.length),(ow 4 r.2.2.2.2.2.length)]),[(.live 12 [[(ow 1 r.1.1.length),(ow 2 r.1.2.1.length),(.int .i64 r.1.2.2.1),(.bool r.1.2.2.2),(.int .i64 r.2.1.1),(.int .i64 r.2.1.2.1),(.int .i64 r.2.1.2.2.1),(.int .i64 r.2.1.2.2.2),(.int .i64 r.2.2.1),(.int .i64 r.2.2.2.1),(ow 3 r.2.2.2.2.1.length),(ow 4 r.2.2.2.2.2.length)]]),(ob 1 r.1.1),(ob 2 r.1.2.1),(ob 2 r.2.2.2.2.1),(ob 2 r.2.2.2.2.2)])
def g96_E (a:K1):List TV:=[(.agg [(.vs (rows a.1.1)),(.vs (rows a.1.2.1)),(.int .i64 a.1.2.2.1),(.bool a.1.2.2.2),(.int .i64 a.2.1.1),(.int .i64 a.2.1.2.1),(.int .i64 a.2.1.2.2.1),(.int .i64 a.2.1.2.2.2),(.int .i64 a.2.2.1),(.int .i64 a.2.2.2.1),(.vs (rows a.2.2.2.2.1)),(.vs (rows a.2.2.2.2.2))])]
theorem g96_run (a_a:K1) :callFn (X g96_S) g96_tf (g96_E a_a) [] = (laws_toPager a_a).map g96_O:=by
  rw [callFn_eq]
  simp (maxSteps:=2000000) (maxDischargeDepth:=8) -implicitDefEqProofs [g96_tf,laws_toPager,g96_E] <;> (try simp only [map_to_bind,g96_O])
def g96_r:Rule:=RlO g96_E (fun a=>laws_toPager a) g96_O
theorem g96_ok:RuleOk Tryz.prog 9 g96_r:=ok_rlo (S:=g96_S) (tf:=g96_tf) (SysOk.on ⟨g119_ok,g94_ok,g95_ok,trivial⟩ trivial) (trE_ok (ks:=[]) Tryz.func9 (by kernel_rfl)) fun a=>g96_run a
@[simp] theorem g96_app (y0 y1 y2 y3 y4 y5 y6 y7 y8 y9 y10 y11):g96_r [(.agg [(.vs (rows y0)),(.vs (rows y1)),(.int .i64 y2),(.bool y3),(.int .i64 y4),(.int .i64 y5),(.int .i64 y6),(.int .i64 y7),(.int .i64 y8),(.int .i64 y9),(.vs (rows y10)),(.vs (rows y11))])] = (laws_toPager (((y0,y1,y2,y3),(y4,y5,y6,y7),y8,y9,y10,y11))).map g96_O :=
  RlO_app (enc:=g96_E) (by intro a b h; simp [g96_E,Prod.ext_iff] at h ⊢; simp [h]) (((y0,y1,y2,y3),(y4,y5,y6,y7),y8,y9,y10,y11))
/-! spec.l00In -/
def g136_tf:TFn:=⟨(.seq (.ops [oo 6 (.mv (kb false))]) (.trim [0,1,2] (.seq (.after (.ops [mo 7 0,mo 8 1,bn 9 .geq (.t 7) (.t 8),mo 10 9,⟨(some 11),(some (10,true)),(.mv (.t 0))⟩,⟨(some 12),(some (10,true)),(.mv (.t 2))⟩,⟨(some 13),(some (10,true)),(.bin .num .leq (.t 11) (.t 12))⟩,pk 14 (.t 10) (.t 13) (kb false),mo 6 14]) ⟨[(6,0)],[],0⟩) (.keep ⟨[(6,0)],[],0⟩ .ret)))),[.t 6]⟩
abbrev g136_S:=Sys.on [] []
def spec_l00In (a_n:Int) (a_low:Int) (a_high:Int):Option (Bool):=if a_n ≥ a_low then some ((decide (a_n ≤ a_high))) else some false
@[simp] def g136_O:Bool → TV × List Blk:=fun r=>((.bool r),[])
def g136_E (a:Int × Int × Int):List TV:=[(.int .i64 a.1),(.int .i64 a.2.1),(.int .i64 a.2.2)]
theorem g136_run (a_n:Int) (a_low:Int) (a_high:Int) :callFn (X g136_S) g136_tf (g136_E (a_n,a_low,a_high)) [] = (spec_l00In a_n a_low a_high).map g136_O:=by
  rw [callFn_eq]
  simp (maxSteps:=2000000) (maxDischargeDepth:=8) -implicitDefEqProofs [g136_tf,spec_l00In,g136_E] <;> (try simp only [map_to_bind,g136_O])
def g136_r:Rule:=RlO g136_E (fun a=>spec_l00In a.1 a.2.1 a.2.2) g136_O
theorem g136_ok:RuleOk Tryz.prog 72 g136_r:=ok_rlo (S:=g136_S) (tf:=g136_tf) (SysOk.on trivial trivial) (trE_ok (ks:=[]) Tryz.func72 (by kernel_rfl)) fun a=>g136_run a.1 a.2.1 a.2.2
@[simp] theorem g136_app (y0 y1 y2):g136_r [(.int .i64 y0),(.int .i64 y1),(.int .i64 y2)] = (spec_l00In y0 y1 y2).map g136_O :=
  RlO_app (enc:=g136_E) (by intro a b h; simp [g136_E,Prod.ext_iff] at h ⊢; simp [h]) (y0,y1,y2)
/-! spec.l09Ok -/
def g137l1_cb:TC:=(.seq (.seq (.ops [mo 30 4,mo 31 0,nk 32 31,fa 33 0 32,ld 34 33,le 35 34,bn 36 .lss (.t 30) (.t 35)]) (.trim [0,3,4,36] (.cond (.t 36) .skip (.keep ⟨[(0,0),(3,0)],[],0⟩ (.exit 0))))) (.trim [0,3,4] (.seq (.block 1 (.seq (.ops [mo 39 0,nk 40 39,fa 41 0 40,ld 42 41,mo 43 4,ia 44 1 42 43,ld 45 44,oo 46 (.len true (.t 45)),bn 47 .neq (.t 46) (ki 64)]) (.trim [0,3,4,47] (.cond (.t 47) (.seq (.ops [oo 2 (.mv (kb false))]) (.keep ⟨[(2,0)],[],0⟩ .ret)) .skip)))) (.trim [0,3,4] (.after (.ops [mo 37 4,bn 38 .add (.t 37) (ki 1),mo 4 38]) ⟨[(0,0),(3,0),(4,0)],[],0⟩)))))
def g137l1_c:TC:=.loop [0,3,4] g137l1_cb
def g137l2_cb:TC:=(.seq (.seq (.ops [mo 48 5,mo 49 0,nk 50 49,fa 51 1 50,ld 52 51,le 53 52,bn 54 .lss (.t 48) (.t 53)]) (.trim [0,3,5,54] (.cond (.t 54) .skip (.keep ⟨[],[],0⟩ (.exit 2))))) (.trim [0,3,5] (.seq (.block 3 (.seq (.ops [mo 57 0,nk 58 57,fa 59 1 58,ld 60 59,mo 61 5,ia 62 2 60 61,fa 63 0 62,ld 64 63,mo 65 3,bn 66 .sub (.t 65) (ki 1),ca 67 72 [.t 64,ki 0,.t 66],nt 68 67,mo 69 68,⟨(some 70),(some (69,false)),(.mv (.t 0))⟩,⟨(some 71),(some (69,false)),(.nilchk (.t 70))⟩,⟨(some 72),(some (69,false)),(.faddr 1 (.t 71))⟩,⟨(some 73),(some (69,false)),(.load none (.t 72))⟩,⟨(some 74),(some (69,false)),(.mv (.t 5))⟩,⟨(some 75),(some (69,false)),(.iaddr 2 (.t 73) (.t 74))⟩,⟨(some 76),(some (69,false)),(.faddr 1 (.t 75))⟩,⟨(some 77),(some (69,false)),(.load none (.t 76))⟩,⟨(some 78),(some (69,false)),(.len true (.t 77))⟩,⟨(some 79),(some (69,false)),(.bin .num .neq (.t 78) (ki 64))⟩,pk 80 (.t 69) (kb true) (.t 79)]) (.trim [0,3,5,80] (.cond (.t 80) (.seq (.ops [oo 2 (.mv (kb false))]) (.keep ⟨[(2,0)],[],0⟩ .ret)) .skip)))) (.trim [0,3,5] (.after (.ops [mo 55 5,bn 56 .add (.t 55) (ki 1),mo 5 56]) ⟨[(0,0),(3,0),(5,0)],[],0⟩)))))
def g137l2_c:TC:=.loop [0,3,5] g137l2_cb
def g137_tf:TFn:=⟨(.seq (.ops [oo 2 (.mv (kb false))]) (.trim [0] (.seq (.ops [mo 6 0,nk 7 6,fa 8 0 7,ld 9 8,le 10 9,mo 3 10]) (.trim [0,3] (.seq (.seq (.ops [mo 11 3,ca 12 72 [.t 11,ki 16,ki 256],nt 13 12,mo 14 13,⟨(some 15),(some (14,false)),(.mv (.t 0))⟩,⟨(some 16),(some (14,false)),(.nilchk (.t 15))⟩,⟨(some 17),(some (14,false)),(.faddr 1 (.t 16))⟩,⟨(some 18),(some (14,false)),(.load none (.t 17))⟩,⟨(some 19),(some (14,false)),(.len false (.t 18))⟩,⟨(some 20),(some (14,false)),(.bin .num .gtr (.t 19) (ki 600))⟩,pk 21 (.t 14) (kb true) (.t 20),mo 22 21,⟨(some 23),(some (22,false)),(.mv (.t 0))⟩,⟨(some 24),(some (22,false)),(.nilchk (.t 23))⟩,⟨(some 25),(some (22,false)),(.faddr 2 (.t 24))⟩,⟨(some 26),(some (22,false)),(.load none (.t 25))⟩,⟨(some 27),(some (22,false)),(.call 72 [.t 26,(ki (-1)),ki 100000])⟩,⟨(some 28),(some (22,false)),(.un .not (.t 27))⟩,pk 29 (.t 22) (kb true) (.t 28)]) (.trim [0,3,29] (.cond (.t 29) (.seq (.ops [oo 2 (.mv (kb false))]) (.keep ⟨[(2,0)],[],0⟩ .ret)) .skip))) (.trim [0,3] (.seq (.seq (.ops [oo 4 (.mv (ki 0))]) (.trim [0,3,4] (.block 0 (.keep ⟨[(0,0),(3,0),(4,0)],[],0⟩ g137l1_c)))) (.trim [0,3] (.seq (.seq (.ops [oo 5 (.mv (ki 0))]) (.trim [0,3,5] (.block 2 (.keep ⟨[(0,0),(3,0),(5,0)],[],0⟩ g137l2_c)))) (.trim [] (.seq (.ops [oo 2 (.mv (kb true))]) (.keep ⟨[(2,0)],[],0⟩ .ret)))))))))))),[.t 2]⟩
abbrev g137_S:=Sys.on [(72,g136_r)] []
def spec_l09Ok_l1_b (v3:List Str) (v4:List (Int × Str)) (v5:Int) (v6:Bool) (v7:Int) (v8:Int):Option ((Int) ⊕ ((List Str × (List (Int × Str)) × Int × Bool × Int) ⊕ (Bool))):=if v8 < (v3.length:Int) then if 0 ≤ v8 then (v3[(v8).toNat]?).bind fun x9=>if ¬((x9.length:Int) = 64) then some (.inr (.inr false)) else some (.inl ((IntKind.i64.wrap (v8 + 1)))) else none else some (.inr (.inl (v3,v4,v5,v6,v7)))
theorem g137l1_b_eq (q0:List TV) (v3:List Str) (v4:List (Int × Str)) (v5:Int) (v6:Bool) (v7:Int) (v8:Int):X g137_S g137l1_cb (keepEnv [0,3,4] [(0,(.vp ((.vs (rows v3))::(.vs (rows v4))::(.int .i64 v5)::(.bool v6)::q0))),(3,(.int .i64 v7)),(4,(.int .i64 v8))]) [] = (spec_l09Ok_l1_b v3 v4 v5 v6 v7 v8).map (Sum.elim (fun s=>(TX.nrm,[(0,(.vp ((.vs (rows v3))::(.vs (rows v4))::(.int .i64 v5)::(.bool v6)::q0))),(3,(.int .i64 v7)),(4,(.int .i64 s))],[])) (Sum.elim (fun t=>(.ext 0,[(0,(.vp ((.vs (rows t.1))::(.vs (rows t.2.1))::(.int .i64 t.2.2.1)::(.bool t.2.2.2.1)::q0))),(3,(.int .i64 t.2.2.2.2))],[])) (fun t=>(.ret,[(2,(.bool t))],[])))):=by
  simp (maxSteps:=2000000) (maxDischargeDepth:=8) -implicitDefEqProofs [g137l1_cb,spec_l09Ok_l1_b] <;> (try simp only [map_to_bind])
def spec_l09Ok_l1 (v3:List Str) (v4:List (Int × Str)) (v5:Int) (v6:Bool) (v7:Int) (s:Int):Option ((List Str × (List (Int × Str)) × Int × Bool × Int) ⊕ (Bool)):=loopO (fun s=>spec_l09Ok_l1_b v3 v4 v5 v6 v7 s) s
@[simp] theorem g137l1_eq (q0:List TV)(y0 y1 y2 y3 y4 y5):X g137_S g137l1_c [(0,(.vp ((.vs (rows y0))::(.vs (rows y1))::(.int .i64 y2)::(.bool y3)::q0))),(3,(.int .i64 y4)),(4,(.int .i64 y5))] [] = (spec_l09Ok_l1 y0 y1 y2 y3 y4 y5).map (Sum.elim (fun t=>(.ext 0,[(0,(.vp ((.vs (rows t.1))::(.vs (rows t.2.1))::(.int .i64 t.2.2.1)::(.bool t.2.2.2.1)::q0))),(3,(.int .i64 t.2.2.2.2))],[])) (fun t=>(.ret,[(2,(.bool t))],[]))):=by
  exact loop_X _ _ _ _ (by intro r; first | (simp; done) | (rcases r with r | r <;> simp; done) | (rcases r with r | r | r <;> simp; done) | (rcases r with r | r | r | r <;> simp)) (fun s=>g137l1_b_eq q0 y0 y1 y2 y3 y4 s) y5
@[reducible,simp] def g137l2_F:((Unit) ⊕ (Bool)) → Out:=(Sum.elim (fun t=>(.ext 2,[],[])) (fun t=>(.ret,[(2,(.bool t))],[])))
def spec_l09Ok_l2_b (v13:List Str) (v14:List (Int × Str)) (v15:Int) (v16:Bool) (v17:Int) (v18:Int):Option ((Int) ⊕ ((Unit) ⊕ (Bool))):=if v18 < (v14.length:Int) then if 0 ≤ v18 then (v14[(v18).toNat]?).bind fun x19=>(spec_l00In x19.1 0 ((IntKind.i64.wrap (v17 - 1)))).bind fun r20=>if ¬(r20 = true) then some (.inr (.inr false)) else if 0 ≤ v18 then (v14[(v18).toNat]?).bind fun x21=>if ¬((x21.2.length:Int) = 64) then some (.inr (.inr false)) else some (.inl ((IntKind.i64.wrap (v18 + 1)))) else none else none else some (.inr (.inl ()))
theorem g137l2_b_eq (q0:List TV) (v13:List Str) (v14:List (Int × Str)) (v15:Int) (v16:Bool) (v17:Int) (v18:Int):X g137_S g137l2_cb (keepEnv [0,3,5] [(0,(.vp ((.vs (rows v13))::(.vs (rows v14))::(.int .i64 v15)::(.bool v16)::q0))),(3,(.int .i64 v17)),(5,(.int .i64 v18))]) [] = (spec_l09Ok_l2_b v13 v14 v15 v16 v17 v18).map (Sum.elim (fun s=>(TX.nrm,[(0,(.vp ((.vs (rows v13))::(.vs (rows v14))::(.int .i64 v15)::(.bool v16)::q0))),(3,(.int .i64 v17)),(5,(.int .i64 s))],[])) g137l2_F):=by
  simp (maxSteps:=2000000) (maxDischargeDepth:=8) -implicitDefEqProofs [g137l2_cb,spec_l09Ok_l2_b] <;> (try simp only [map_to_bind,g137l2_F])
def spec_l09Ok_l2 (v13:List Str) (v14:List (Int × Str)) (v15:Int) (v16:Bool) (v17:Int) (s:Int):Option ((Unit) ⊕ (Bool)):=loopO (fun s=>spec_l09Ok_l2_b v13 v14 v15 v16 v17 s) s
@[simp] theorem g137l2_eq (q0:List TV)(y0 y1 y2 y3 y4 y5):X g137_S g137l2_c [(0,(.vp ((.vs (rows y0))::(.vs (rows y1))::(.int .i64 y2)::(.bool y3)::q0))),(3,(.int .i64 y4)),(5,(.int .i64 y5))] [] = (spec_l09Ok_l2 y0 y1 y2 y3 y4 y5).map g137l2_F:=by
  exact loop_X _ _ _ _ (by intro r; first | (simp; done) | (rcases r with r | r <;> simp; done) | (rcases r with r | r | r <;> simp; done) | (rcases r with r | r | r | r <;> simp)) (fun s=>g137l2_b_eq q0 y0 y1 y2 y3 y4 s) y5
def spec_l09Ok (a_d:K0):Option (Bool):=(spec_l00In ((a_d.1.length:Int)) 16 256).bind fun r1=>if ¬(r1 = true) then some false else if (a_d.2.1.length:Int) > 600 then some false else (spec_l00In a_d.2.2.1 ((-1)) 100000).bind fun r2=>if ¬(r2 = true) then some false else (spec_l09Ok_l1 a_d.1 a_d.2.1 a_d.2.2.1 a_d.2.2.2 ((a_d.1.length:Int)) 0).bind fun r10=>Sum.elim (fun u11=>(spec_l09Ok_l2 u11.1 u11.2.1 u11.2.2.1 u11.2.2.2.1 u11.2.2.2.2 0).bind fun r22=>Sum.elim (fun u23=>some true) (fun u24=>some u24) r22) (fun u12=>some u12) r10
@[simp] def g137_O:Bool → TV × List Blk:=fun r=>((.bool r),[])
def g137_E (a:K0 × List TV):List TV:=[(.vp ((.vs (rows a.1.1))::(.vs (rows a.1.2.1))::(.int .i64 a.1.2.2.1)::(.bool a.1.2.2.2)::a.2))]
theorem g137_run (a_d:K0) (q0:List TV):callFn (X g137_S) g137_tf (g137_E (a_d,q0)) [] = (spec_l09Ok a_d).map g137_O:=by
  rw [callFn_eq]
  simp (maxSteps:=2000000) (maxDischargeDepth:=8) -implicitDefEqProofs [g137_tf,spec_l09Ok,g137_E] <;> (try simp only [map_to_bind,g137_O])
def g137_r:Rule:=RlO g137_E (fun a=>spec_l09Ok a.1) g137_O
theorem g137_ok:RuleOk Tryz.prog 70 g137_r:=ok_rlo (S:=g137_S) (tf:=g137_tf) (SysOk.on ⟨g136_ok,trivial⟩ trivial) (trE_ok (ks:=[[0,3,4],[0,3,5]]) Tryz.func70 (by kernel_rfl)) fun a=>g137_run a.1 a.2
@[simp] theorem g137_app (y0 y1 y2 y3)(q0:List TV):g137_r [(.vp ((.vs (rows y0))::(.vs (rows y1))::(.int .i64 y2)::(.bool y3)::q0))] = (spec_l09Ok ((y0,y1,y2,y3))).map g137_O :=
  RlO_app (enc:=g137_E) (by intro a b h; simp [g137_E,Prod.ext_iff] at h ⊢; simp [h]) ((y0,y1,y2,y3),q0)
/-! spec.ValidSuper -/
def g51_tf:TFn:=⟨(.seq (.ops [bx 1 0,oo 2 (.mv (kb false))]) (.trim [1] (.seq (.after (.ops [fa 3 0 1,ld 4 3,ca 5 72 [.t 4,ki 16,ki 256],mo 6 5,⟨(some 7),(some (6,true)),(.faddr 1 (.t 1))⟩,⟨(some 8),(some (6,true)),(.load none (.t 7))⟩,⟨(some 9),(some (6,true)),(.call 72 [.t 8,ki 8,ki 64])⟩,pk 10 (.t 6) (.t 9) (kb false),mo 11 10,⟨(some 12),(some (11,true)),(.faddr 1 (.t 1))⟩,⟨(some 13),(some (11,true)),(.load none (.t 12))⟩,⟨(some 14),(some (11,true)),(.faddr 0 (.t 1))⟩,⟨(some 15),(some (11,true)),(.load none (.t 14))⟩,⟨(some 16),(some (11,true)),(.bin .num .sub (.t 15) (ki 4))⟩,⟨(some 17),(some (11,true)),(.bin .num .leq (.t 13) (.t 16))⟩,pk 18 (.t 11) (.t 17) (kb false),mo 19 18,⟨(some 20),(some (19,true)),(.faddr 2 (.t 1))⟩,⟨(some 21),(some (19,true)),(.load none (.t 20))⟩,⟨(some 22),(some (19,true)),(.call 72 [.t 21,ki 0,ki 1000000000000])⟩,pk 23 (.t 19) (.t 22) (kb false),mo 24 23,⟨(some 25),(some (24,true)),(.faddr 3 (.t 1))⟩,⟨(some 26),(some (24,true)),(.load none (.t 25))⟩,⟨(some 27),(some (24,true)),(.call 72 [.t 26,ki 0,ki 1000000000000])⟩,pk 28 (.t 24) (.t 27) (kb false),mo 2 28]) ⟨[(2,0)],[],0⟩) (.keep ⟨[(2,0)],[],0⟩ .ret)))),[.t 2]⟩
abbrev g51_S:=Sys.on [(72,g136_r)] []
def spec_ValidSuper (a_s:Int × Int × Int × Int):Option (Bool):=(spec_l00In a_s.1 16 256).bind fun r1=>if r1 = true then (spec_l00In a_s.2.1 8 64).bind fun r2=>if r2 = true then if a_s.2.1 ≤ (IntKind.i64.wrap (a_s.1 - 4)) then (spec_l00In a_s.2.2.1 0 1000000000000).bind fun r3=>if r3 = true then (spec_l00In a_s.2.2.2 0 1000000000000).bind fun r4=>some r4 else some false else some false else some false else some false
@[simp] def g51_O:Bool → TV × List Blk:=fun r=>((.bool r),[])
def g51_E (a:(Int × Int × Int × Int)):List TV:=[(.agg [(.int .i64 a.1),(.int .i64 a.2.1),(.int .i64 a.2.2.1),(.int .i64 a.2.2.2)])]
theorem g51_run (a_s:Int × Int × Int × Int) :callFn (X g51_S) g51_tf (g51_E a_s) [] = (spec_ValidSuper a_s).map g51_O:=by
  rw [callFn_eq]
  simp (maxSteps:=2000000) (maxDischargeDepth:=8) -implicitDefEqProofs [g51_tf,spec_ValidSuper,g51_E] <;> (try simp only [map_to_bind,g51_O])
def g51_r:Rule:=RlO g51_E (fun a=>spec_ValidSuper a) g51_O
theorem g51_ok:RuleOk Tryz.prog 71 g51_r:=ok_rlo (S:=g51_S) (tf:=g51_tf) (SysOk.on ⟨g136_ok,trivial⟩ trivial) (trE_ok (ks:=[]) Tryz.func71 (by kernel_rfl)) fun a=>g51_run a
@[simp] theorem g51_app (y0 y1 y2 y3):g51_r [(.agg [(.int .i64 y0),(.int .i64 y1),(.int .i64 y2),(.int .i64 y3)])] = (spec_ValidSuper ((y0,y1,y2,y3))).map g51_O :=
  RlO_app (enc:=g51_E) (by intro a b h; simp [g51_E,Prod.ext_iff] at h ⊢; simp [h]) ((y0,y1,y2,y3))
/-! spec.l11Pages -/
def g80l1_cb:TC:=(.seq (.seq (.ops [mo 7 3,mo 8 0,le 9 8,bn 10 .lss (.t 7) (.t 9)]) (.trim [0,3,10] (.cond (.t 10) .skip (.keep ⟨[],[],0⟩ (.exit 0))))) (.trim [0,3] (.seq (.block 1 (.seq (.draw [([],mo 13 0),([],mo 14 3),([0,1],ia 15 2 13 14),([0,1,2],fa 16 0 15),([0,1,2,3],ld 17 16),([0,1,2,3,4],ca 18 72 [.t 17,ki 0,ki 255]),([0,1,2,3,4,5],nt 19 18),([0,1,2,3,4,5,6],mo 20 19),([0,1,2,3,4,5,6,7],⟨(some 21),(some (20,false)),(.mv (.t 0))⟩),([0,1,2,3,4,5,6,7],⟨(some 22),(some (20,false)),(.mv (.t 3))⟩),([0,1,2,3,4,5,6,7,8,9],⟨(some 23),(some (20,false)),(.iaddr 2 (.t 21) (.t 22))⟩),([0,1,2,3,4,5,6,7,8,9,10],⟨(some 24),(some (20,false)),(.faddr 1 (.t 23))⟩),([0,1,2,3,4,5,6,7,8,9,10,11],⟨(some 25),(some (20,false)),(.load none (.t 24))⟩),([0,1,2,3,4,5,6,7,8,9,10,11,12],⟨(some 26),(some (20,false)),(.len true (.t 25))⟩),([0,1,2,3,4,5,6,7,8,9,10,11,12,13],⟨(some 27),(some (20,false)),(.bin .num .neq (.t 26) (ki 64))⟩),([0,1,2,3,4,5,6,7,8,9,10,11,12,13,14],pk 28 (.t 20) (kb true) (.t 27)),([0,1,2,3,4,5,6,7,8,9,10,11,12,13,14,15],mo 29 28),([0,1,2,3,4,5,6,7,8,9,10,11,12,13,14,15,16],⟨(some 30),(some (29,false)),(.mv (.t 3))⟩),([0,1,2,3,4,5,6,7,8,9,10,11,12,13,14,15,16,17],⟨(some 31),(some (29,false)),(.bin .num .gtr (.t 30) (ki 0))⟩),([0,1,2,3,4,5,6,7,8,9,10,11,12,13,14,15,16,17,18],⟨(some 32),(some (29,false)),(.mv (.t 31))⟩),([0,1,2,3,4,5,6,7,8,9,10,11,12,13,14,15,16,17,18,19],⟨(some 33),(some (32,true)),(.mv (.t 0))⟩),([0,1,2,3,4,5,6,7,8,9,10,11,12,13,14,15,16,17,18,19],⟨(some 34),(some (32,true)),(.mv (.t 3))⟩),([0,1,2,3,4,5,6,7,8,9,10,11,12,13,14,15,16,17,18,19,21],⟨(some 35),(some (32,true)),(.bin .num .sub (.t 34) (ki 1))⟩),([0,1,2,3,4,5,6,7,8,9,10,11,12,13,14,15,16,17,18,19,20,21,22],⟨(some 36),(some (32,true)),(.iaddr 2 (.t 33) (.t 35))⟩),([0,1,2,3,4,5,6,7,8,9,10,11,12,13,14,15,16,17,18,19,20,21,22,23],⟨(some 37),(some (32,true)),(.faddr 0 (.t 36))⟩),([0,1,2,3,4,5,6,7,8,9,10,11,12,13,14,15,16,17,18,19,20,21,22,23,24],⟨(some 38),(some (32,true)),(.load none (.t 37))⟩),([0,1,2,3,4,5,6,7,8,9,10,11,12,13,14,15,16,17,18,19],⟨(some 39),(some (32,true)),(.mv (.t 0))⟩),([0,1,2,3,4,5,6,7,8,9,10,11,12,13,14,15,16,17,18,19],⟨(some 40),(some (32,true)),(.mv (.t 3))⟩),([0,1,2,3,4,5,6,7,8,9,10,11,12,13,14,15,16,17,18,19,26,27],⟨(some 41),(some (32,true)),(.iaddr 2 (.t 39) (.t 40))⟩),([0,1,2,3,4,5,6,7,8,9,10,11,12,13,14,15,16,17,18,19,26,27,28],⟨(some 42),(some (32,true)),(.faddr 0 (.t 41))⟩),([0,1,2,3,4,5,6,7,8,9,10,11,12,13,14,15,16,17,18,19,26,27,28,29],⟨(some 43),(some (32,true)),(.load none (.t 42))⟩)] [⟨(some 44),(some (32,true)),(.bin .num .geq (.t 38) (.t 43))⟩,⟨(some 45),(some (29,false)),(.pick (.t 32) (.t 44) (kb false))⟩,pk 46 (.t 29) (kb true) (.t 45)]) (.trim [0,3,46] (.cond (.t 46) (.seq (.ops [oo 2 (.mv (kb false))]) (.keep ⟨[(2,0)],[],0⟩ .ret)) (.keep ⟨[(0,0),(3,0)],[],0⟩ .skip))))) (.trim [0,3] (.after (.ops [mo 11 3,bn 12 .add (.t 11) (ki 1),mo 3 12]) ⟨[(0,0),(3,0)],[],0⟩)))))
def g80l1_c:TC:=.loop [0,3] g80l1_cb
def g80_tf:TFn:=⟨(.seq (.ops [oo 2 (.mv (kb false))]) (.trim [0] (.seq (.seq (.ops [mo 4 0,le 5 4,bn 6 .gtr (.t 5) (ki 256)]) (.trim [0,6] (.cond (.t 6) (.seq (.ops [oo 2 (.mv (kb false))]) (.keep ⟨[(2,0)],[],0⟩ .ret)) .skip))) (.trim [0] (.seq (.seq (.ops [oo 3 (.mv (ki 0))]) (.trim [0,3] (.block 0 (.keep ⟨[(0,0),(3,0)],[],0⟩ g80l1_c)))) (.trim [] (.seq (.ops [oo 2 (.mv (kb true))]) (.keep ⟨[(2,0)],[],0⟩ .ret)))))))),[.t 2]⟩
abbrev g80_S:=Sys.on [(72,g136_r)] []
@[reducible,simp] def g80l1_F:((Unit) ⊕ (Bool)) → Out:=(Sum.elim (fun t=>(.ext 0,[],[])) (fun t=>(.ret,[(2,(.bool t))],[])))
def spec_l11Pages_l1_b (v1:List (Int × Str)) (v2:Int):Option ((Int) ⊕ ((Unit) ⊕ (Bool))):=if v2 < (v1.length:Int) then if 0 ≤ v2 then (v1[(v2).toNat]?).bind fun x3=>(spec_l00In x3.1 0 255).bind fun r4=>if ¬(r4 = true) then some (.inr (.inr false)) else if 0 ≤ v2 then (v1[(v2).toNat]?).bind fun x5=>if ¬((x5.2.length:Int) = 64) then some (.inr (.inr false)) else if v2 > 0 then if 0 ≤ (IntKind.i64.wrap (v2 - 1)) then (v1[((IntKind.i64.wrap (v2 - 1))).toNat]?).bind fun x6=>if 0 ≤ v2 then (v1[(v2).toNat]?).bind fun x7=>if x6.1 ≥ x7.1 then some (.inr (.inr false)) else some (.inl ((IntKind.i64.wrap (v2 + 1)))) else none else none else some (.inl ((IntKind.i64.wrap (v2 + 1)))) else none else none else some (.inr (.inl ()))
theorem g80l1_b_eq  (v1:List (Int × Str)) (v2:Int):X g80_S g80l1_cb (keepEnv [0,3] [(0,(.vs (rows v1))),(3,(.int .i64 v2))]) [] = (spec_l11Pages_l1_b v1 v2).map (Sum.elim (fun s=>(TX.nrm,[(0,(.vs (rows v1))),(3,(.int .i64 s))],[])) g80l1_F):=by
  simp (maxSteps:=2000000) (maxDischargeDepth:=8) -implicitDefEqProofs [g80l1_cb,spec_l11Pages_l1_b] <;> (try simp only [map_to_bind,g80l1_F])
def spec_l11Pages_l1 (v1:List (Int × Str)) (s:Int):Option ((Unit) ⊕ (Bool)):=loopO (fun s=>spec_l11Pages_l1_b v1 s) s
@[simp] theorem g80l1_eq (y0 y1):X g80_S g80l1_c [(0,(.vs (rows y0))),(3,(.int .i64 y1))] [] = (spec_l11Pages_l1 y0 y1).map g80l1_F:=by
  exact loop_X _ _ _ _ (by intro r; first | (simp; done) | (rcases r with r | r <;> simp; done) | (rcases r with r | r | r <;> simp; done) | (rcases r with r | r | r | r <;> simp)) (fun s=>g80l1_b_eq  y0 s) y1
def spec_l11Pages (a_list:List (Int × Str)):Option (Bool):=if (a_list.length:Int) > 256 then some false else (spec_l11Pages_l1 a_list 0).bind fun r8=>Sum.elim (fun u9=>some true) (fun u10=>some u10) r8
@[simp] def g80_O:Bool → TV × List Blk:=fun r=>((.bool r),[])
def g80_E (a:(List (Int × Str))):List TV:=[(.vs (rows a))]
theorem g80_run (a_list:List (Int × Str)) :callFn (X g80_S) g80_tf (g80_E a_list) [] = (spec_l11Pages a_list).map g80_O:=by
  rw [callFn_eq]
  simp (maxSteps:=2000000) (maxDischargeDepth:=8) -implicitDefEqProofs [g80_tf,spec_l11Pages,g80_E] <;> (try simp only [map_to_bind,g80_O])
def g80_r:Rule:=RlO g80_E (fun a=>spec_l11Pages a) g80_O
theorem g80_ok:RuleOk Tryz.prog 73 g80_r:=ok_rlo (S:=g80_S) (tf:=g80_tf) (SysOk.on ⟨g136_ok,trivial⟩ trivial) (trE_ok (ks:=[[0,3],[31]]) Tryz.func73 (by kernel_rfl)) fun a=>g80_run a
@[simp] theorem g80_app (y0):g80_r [(.vs (rows y0))] = (spec_l11Pages y0).map g80_O :=
  RlO_app (enc:=g80_E) (by intro a b h; simp [g80_E,Prod.ext_iff] at h ⊢; simp [h]) y0
/-! spec.l10Area -/
def g97_tf:TFn:=⟨(.seq (.ops [bx 1 0,oo 2 (.mv (ki 0))]) (.trim [1] (.seq (.ops [fa 3 1 1,ld 4 3,bn 5 .add (ki 2) (.t 4),mo 2 5]) (.keep ⟨[(2,0)],[],0⟩ .ret)))),[.t 2]⟩
abbrev g97_S:=Sys.on [] []
def spec_l10Area (a_s:Int × Int × Int × Int):Option (Int):=some ((IntKind.i64.wrap (2 + a_s.2.1)))
@[simp] def g97_O:Int → TV × List Blk:=fun r=>((.int .i64 r),[])
def g97_E (a:(Int × Int × Int × Int)):List TV:=[(.agg [(.int .i64 a.1),(.int .i64 a.2.1),(.int .i64 a.2.2.1),(.int .i64 a.2.2.2)])]
theorem g97_run (a_s:Int × Int × Int × Int) :callFn (X g97_S) g97_tf (g97_E a_s) [] = (spec_l10Area a_s).map g97_O:=by
  rw [callFn_eq]
  simp (maxSteps:=2000000) (maxDischargeDepth:=8) -implicitDefEqProofs [g97_tf,spec_l10Area,g97_E] <;> (try simp only [map_to_bind,g97_O])
def g97_r:Rule:=RlO g97_E (fun a=>spec_l10Area a) g97_O
theorem g97_ok:RuleOk Tryz.prog 106 g97_r:=ok_rlo (S:=g97_S) (tf:=g97_tf) (SysOk.on trivial trivial) (trE_ok (ks:=[]) Tryz.func106 (by kernel_rfl)) fun a=>g97_run a
@[simp] theorem g97_app (y0 y1 y2 y3):g97_r [(.agg [(.int .i64 y0),(.int .i64 y1),(.int .i64 y2),(.int .i64 y3)])] = (spec_l10Area ((y0,y1,y2,y3))).map g97_O :=
  RlO_app (enc:=g97_E) (by intro a b h; simp [g97_E,Prod.ext_iff] at h ⊢; simp [h]) ((y0,y1,y2,y3))
/-! spec.l11Within -/
def g66l1_cb:TC:=(.seq (.seq (.ops [mo 6 5,mo 7 1,le 8 7,bn 9 .lss (.t 6) (.t 8)]) (.trim [1,2,5,9] (.cond (.t 9) .skip (.keep ⟨[],[],0⟩ (.exit 0))))) (.trim [1,2,5] (.seq (.block 1 (.seq (.draw [([],mo 12 1),([],mo 13 5),([0,1],ia 14 2 12 13),([0,1,2],fa 15 0 14),([0,1,2,3],ld 16 15),([],ln 17 4 2),([5],ca 18 106 [.t 17]),([],fa 19 0 2),([7],ld 20 19),([7,8],bn 21 .sub (.t 20) (ki 1))] [ca 22 72 [.t 16,.t 18,.t 21],nt 23 22]) (.trim [1,2,5,23] (.cond (.t 23) (.seq (.ops [oo 4 (.mv (kb false))]) (.keep ⟨[(4,0)],[],0⟩ .ret)) .skip)))) (.trim [1,2,5] (.after (.ops [mo 10 5,bn 11 .add (.t 10) (ki 1),mo 5 11]) ⟨[(1,0),(2,0),(5,0)],[(0,0)],0⟩)))))
def g66l1_c:TC:=.loop [1,2,5] g66l1_cb
def g66_tf:TFn:=⟨(.seq (.ops [bx 2 0,oo 4 (.mv (kb false))]) (.trim [1,2] (.seq (.seq (.ops [oo 5 (.mv (ki 0))]) (.trim [1,2,5] (.block 0 (.keep ⟨[(1,0),(2,0),(5,0)],[(0,0)],0⟩ g66l1_c)))) (.trim [] (.seq (.ops [oo 4 (.mv (kb true))]) (.keep ⟨[(4,0)],[],0⟩ .ret)))))),[.t 4]⟩
abbrev g66_S:=Sys.on [(106,g97_r),(72,g136_r)] []
@[reducible,simp] def g66l1_F:((Unit) ⊕ (Bool)) → Out:=(Sum.elim (fun t=>(.ext 0,[],[])) (fun t=>(.ret,[(4,(.bool t))],[])))
def spec_l11Within_l1_b (v1:List (Int × Str)) (v2:Int × Int × Int × Int) (v3:Int):Option ((Int) ⊕ ((Unit) ⊕ (Bool))):=if v3 < (v1.length:Int) then if 0 ≤ v3 then (v1[(v3).toNat]?).bind fun x4=>(spec_l10Area v2).bind fun r5=>(spec_l00In x4.1 r5 ((IntKind.i64.wrap (v2.1 - 1)))).bind fun r6=>if ¬(r6 = true) then some (.inr (.inr false)) else some (.inl ((IntKind.i64.wrap (v3 + 1)))) else none else some (.inr (.inl ()))
theorem g66l1_b_eq  (v1:List (Int × Str)) (v2:Int × Int × Int × Int) (v3:Int):X g66_S g66l1_cb (keepEnv [1,2,5] [(1,(.vs (rows v1))),(2,(.ptr 0 0 0)),(5,(.int .i64 v3))]) [(.live 4 [[(.int .i64 v2.1),(.int .i64 v2.2.1),(.int .i64 v2.2.2.1),(.int .i64 v2.2.2.2)]])] = (spec_l11Within_l1_b v1 v2 v3).map (Sum.elim (fun s=>(TX.nrm,[(1,(.vs (rows v1))),(2,(.ptr 0 0 0)),(5,(.int .i64 s))],[(.live 4 [[(.int .i64 v2.1),(.int .i64 v2.2.1),(.int .i64 v2.2.2.1),(.int .i64 v2.2.2.2)]])])) g66l1_F):=by
  simp (maxSteps:=2000000) (maxDischargeDepth:=8) -implicitDefEqProofs [g66l1_cb,spec_l11Within_l1_b] <;> (try simp only [map_to_bind,g66l1_F])
def spec_l11Within_l1 (v1:List (Int × Str)) (v2:Int × Int × Int × Int) (s:Int):Option ((Unit) ⊕ (Bool)):=loopO (fun s=>spec_l11Within_l1_b v1 v2 s) s
@[simp] theorem g66l1_eq (y0 y1 y2 y3 y4 y5):X g66_S g66l1_c [(1,(.vs (rows y0))),(2,(.ptr 0 0 0)),(5,(.int .i64 y5))] [(.live 4 [[(.int .i64 y1),(.int .i64 y2),(.int .i64 y3),(.int .i64 y4)]])] = (spec_l11Within_l1 y0 ((y1,y2,y3,y4)) y5).map g66l1_F:=by
  exact loop_X _ _ _ _ (by intro r; first | (simp; done) | (rcases r with r | r <;> simp; done) | (rcases r with r | r | r <;> simp; done) | (rcases r with r | r | r | r <;> simp)) (fun s=>g66l1_b_eq  y0 ((y1,y2,y3,y4)) s) y5
def spec_l11Within (a_s:Int × Int × Int × Int) (a_list:List (Int × Str)):Option (Bool):=(spec_l11Within_l1 a_list a_s 0).bind fun r7=>Sum.elim (fun u8=>some true) (fun u9=>some u9) r7
@[simp] def g66_O:Bool → TV × List Blk:=fun r=>((.bool r),[])
def g66_E (a:(Int × Int × Int × Int) × (List (Int × Str))):List TV:=[(.agg [(.int .i64 a.1.1),(.int .i64 a.1.2.1),(.int .i64 a.1.2.2.1),(.int .i64 a.1.2.2.2)]),(.vs (rows a.2))]
theorem g66_run (a_s:Int × Int × Int × Int) (a_list:List (Int × Str)) :callFn (X g66_S) g66_tf (g66_E (a_s,a_list)) [] = (spec_l11Within a_s a_list).map g66_O:=by
  rw [callFn_eq]
  simp (maxSteps:=2000000) (maxDischargeDepth:=8) -implicitDefEqProofs [g66_tf,spec_l11Within,g66_E] <;> (try simp only [map_to_bind,g66_O])
def g66_r:Rule:=RlO g66_E (fun a=>spec_l11Within a.1 a.2) g66_O
theorem g66_ok:RuleOk Tryz.prog 74 g66_r:=ok_rlo (S:=g66_S) (tf:=g66_tf) (SysOk.on ⟨g97_ok,g136_ok,trivial⟩ trivial) (trE_ok (ks:=[[1,2,5],[10]]) Tryz.func74 (by kernel_rfl)) fun a=>g66_run a.1 a.2
@[simp] theorem g66_app (y0 y1 y2 y3 y4):g66_r [(.agg [(.int .i64 y0),(.int .i64 y1),(.int .i64 y2),(.int .i64 y3)]),(.vs (rows y4))] = (spec_l11Within ((y0,y1,y2,y3)) y4).map g66_O :=
  RlO_app (enc:=g66_E) (by intro a b h; simp [g66_E,Prod.ext_iff] at h ⊢; simp [h]) ((y0,y1,y2,y3),y4)
/-! spec.l11Table -/
def g81_tf:TFn:=⟨(.seq (.ops [oo 2 (.mv (ki 0))]) (.trim [0] (.seq (.ops [mo 3 0,bn 4 .mul (ki 2) (.t 3),bn 5 .add (.t 4) (ki 64),bn 6 .sub (.t 5) (ki 1),bn 7 .quo (.t 6) (ki 64),mo 2 7]) (.keep ⟨[(2,0)],[],0⟩ .ret)))),[.t 2]⟩
abbrev g81_S:=Sys.on [] []
def spec_l11Table (a_pages:Int):Option (Int):=some ((IntKind.i64.wrap (Int.tdiv ((IntKind.i64.wrap ((IntKind.i64.wrap ((IntKind.i64.wrap (2 * a_pages)) + 64)) - 1))) 64)))
@[simp] def g81_O:Int → TV × List Blk:=fun r=>((.int .i64 r),[])
def g81_E (a:Int):List TV:=[(.int .i64 a)]
theorem g81_run (a_pages:Int) :callFn (X g81_S) g81_tf (g81_E a_pages) [] = (spec_l11Table a_pages).map g81_O:=by
  rw [callFn_eq]
  simp (maxSteps:=2000000) (maxDischargeDepth:=8) -implicitDefEqProofs [g81_tf,spec_l11Table,g81_E] <;> (try simp only [map_to_bind,g81_O])
def g81_r:Rule:=RlO g81_E (fun a=>spec_l11Table a) g81_O
theorem g81_ok:RuleOk Tryz.prog 160 g81_r:=ok_rlo (S:=g81_S) (tf:=g81_tf) (SysOk.on trivial trivial) (trE_ok (ks:=[]) Tryz.func160 (by kernel_rfl)) fun a=>g81_run a
@[simp] theorem g81_app (y0):g81_r [(.int .i64 y0)] = (spec_l11Table y0).map g81_O :=
  RlO_app (enc:=g81_E) (by intro a b h; simp [g81_E,Prod.ext_iff] at h ⊢; simp [h]) y0
/-! spec.l11Blocks -/
def g67_tf:TFn:=⟨(.seq (.ops [oo 2 (.mv (ki 0))]) (.trim [0] (.seq (.ops [mo 3 0,ca 4 160 [.t 3],bn 5 .add (ki 1) (.t 4),mo 6 0,bn 7 .add (.t 5) (.t 6),mo 2 7]) (.keep ⟨[(2,0)],[],0⟩ .ret)))),[.t 2]⟩
abbrev g67_S:=Sys.on [(160,g81_r)] []
def spec_l11Blocks (a_pages:Int):Option (Int):=(spec_l11Table a_pages).bind fun r1=>some ((IntKind.i64.wrap ((IntKind.i64.wrap (1 + r1)) + a_pages)))
@[simp] def g67_O:Int → TV × List Blk:=fun r=>((.int .i64 r),[])
def g67_E (a:Int):List TV:=[(.int .i64 a)]
theorem g67_run (a_pages:Int) :callFn (X g67_S) g67_tf (g67_E a_pages) [] = (spec_l11Blocks a_pages).map g67_O:=by
  rw [callFn_eq]
  simp (maxSteps:=2000000) (maxDischargeDepth:=8) -implicitDefEqProofs [g67_tf,spec_l11Blocks,g67_E] <;> (try simp only [map_to_bind,g67_O])
def g67_r:Rule:=RlO g67_E (fun a=>spec_l11Blocks a) g67_O
theorem g67_ok:RuleOk Tryz.prog 123 g67_r:=ok_rlo (S:=g67_S) (tf:=g67_tf) (SysOk.on ⟨g81_ok,trivial⟩ trivial) (trE_ok (ks:=[]) Tryz.func123 (by kernel_rfl)) fun a=>g67_run a
@[simp] theorem g67_app (y0):g67_r [(.int .i64 y0)] = (spec_l11Blocks y0).map g67_O :=
  RlO_app (enc:=g67_E) (by intro a b h; simp [g67_E,Prod.ext_iff] at h ⊢; simp [h]) y0
/-! spec.l12Fits -/
def g98_tf:TFn:=⟨(.seq (.ops [bx 2 0,oo 4 (.mv (kb false))]) (.trim [1,2] (.seq (.after (.draw [([],mo 5 1),([0],bn 6 .eql (.t 5) (ki 0)),([0,1],mo 7 6),([0,1,2],⟨(some 8),(some (7,false)),(.mv (.t 1))⟩),([0,1,2,3],⟨(some 9),(some (7,false)),(.bin .num .leq (.t 8) (ki 60))⟩),([0,1,2,3,4],⟨(some 10),(some (7,false)),(.mv (.t 9))⟩),([0,1,2,3,4,5],⟨(some 11),(some (10,true)),(.mv (.t 1))⟩),([0,1,2,3,4,5,6],⟨(some 12),(some (10,true)),(.call 123 [.t 11])⟩),([0,1,2,3,4,5],⟨(some 13),(some (10,true)),(.faddr 1 (.t 2))⟩),([0,1,2,3,4,5,8],⟨(some 14),(some (10,true)),(.load none (.t 13))⟩)] [⟨(some 15),(some (10,true)),(.bin .num .leq (.t 12) (.t 14))⟩,⟨(some 16),(some (7,false)),(.pick (.t 10) (.t 15) (kb false))⟩,pk 17 (.t 7) (kb true) (.t 16),mo 4 17]) ⟨[(4,0)],[],0⟩) (.keep ⟨[(4,0)],[],0⟩ .ret)))),[.t 4]⟩
abbrev g98_S:=Sys.on [(123,g67_r)] []
def spec_l12Fits (a_s:Int × Int × Int × Int) (a_pages:Int):Option (Bool):=if a_pages = 0 then some true else if a_pages ≤ 60 then (spec_l11Blocks a_pages).bind fun r1=>some ((decide (r1 ≤ a_s.2.1))) else some false
@[simp] def g98_O:Bool → TV × List Blk:=fun r=>((.bool r),[])
def g98_E (a:(Int × Int × Int × Int) × Int):List TV:=[(.agg [(.int .i64 a.1.1),(.int .i64 a.1.2.1),(.int .i64 a.1.2.2.1),(.int .i64 a.1.2.2.2)]),(.int .i64 a.2)]
theorem g98_run (a_s:Int × Int × Int × Int) (a_pages:Int) :callFn (X g98_S) g98_tf (g98_E (a_s,a_pages)) [] = (spec_l12Fits a_s a_pages).map g98_O:=by
  rw [callFn_eq]
  simp (maxSteps:=2000000) (maxDischargeDepth:=8) -implicitDefEqProofs [g98_tf,spec_l12Fits,g98_E] <;> (try simp only [map_to_bind,g98_O])
def g98_r:Rule:=RlO g98_E (fun a=>spec_l12Fits a.1 a.2) g98_O
theorem g98_ok:RuleOk Tryz.prog 75 g98_r:=ok_rlo (S:=g98_S) (tf:=g98_tf) (SysOk.on ⟨g67_ok,trivial⟩ trivial) (trE_ok (ks:=[[10]]) Tryz.func75 (by kernel_rfl)) fun a=>g98_run a.1 a.2
@[simp] theorem g98_app (y0 y1 y2 y3 y4):g98_r [(.agg [(.int .i64 y0),(.int .i64 y1),(.int .i64 y2),(.int .i64 y3)]),(.int .i64 y4)] = (spec_l12Fits ((y0,y1,y2,y3)) y4).map g98_O :=
  RlO_app (enc:=g98_E) (by intro a b h; simp [g98_E,Prod.ext_iff] at h ⊢; simp [h]) ((y0,y1,y2,y3),y4)
/-! spec.l12Ok -/
def g138p1_c:TC:=(.seq (.seq (.draw [([],mo 46 0),([0],nk 47 46),([0,1],fa 48 8 47),([0,1,2],ld 49 48),([],fa 50 2 3),([4],ld 51 50),([0,1,2,3,4,5],ca 52 72 [.t 49,.t 51,ki 1000000000000]),([0,1,2,3,4,5,6],nt 53 52),([0,1,2,3,4,5,6,7],mo 54 53),([0,1,2,3,4,5,6,7,8],⟨(some 55),(some (54,false)),(.mv (.t 0))⟩),([0,1,2,3,4,5,6,7,8,9],⟨(some 56),(some (54,false)),(.nilchk (.t 55))⟩),([0,1,2,3,4,5,6,7,8,9,10],⟨(some 57),(some (54,false)),(.faddr 9 (.t 56))⟩),([0,1,2,3,4,5,6,7,8,9,10,11],⟨(some 58),(some (54,false)),(.load none (.t 57))⟩),([0,1,2,3,4,5,6,7,8],⟨(some 59),(some (54,false)),(.faddr 1 (.t 3))⟩),([0,1,2,3,4,5,6,7,8,13],⟨(some 60),(some (54,false)),(.load none (.t 59))⟩),([0,1,2,3,4,5,6,7,8,9,10,11,12,13,14],⟨(some 61),(some (54,false)),(.call 72 [.t 58,ki 0,.t 60])⟩),([0,1,2,3,4,5,6,7,8,9,10,11,12,13,14,15],⟨(some 62),(some (54,false)),(.un .not (.t 61))⟩),([0,1,2,3,4,5,6,7,8,9,10,11,12,13,14,15,16],pk 63 (.t 54) (kb true) (.t 62)),([0,1,2,3,4,5,6,7,8,9,10,11,12,13,14,15,16,17],mo 64 63),([0,1,2,3,4,5,6,7,8,9,10,11,12,13,14,15,16,17,18],⟨(some 65),(some (64,false)),(.mv (.t 0))⟩),([0,1,2,3,4,5,6,7,8,9,10,11,12,13,14,15,16,17,18,19],⟨(some 66),(some (64,false)),(.nilchk (.t 65))⟩),([0,1,2,3,4,5,6,7,8,9,10,11,12,13,14,15,16,17,18,19,20],⟨(some 67),(some (64,false)),(.faddr 10 (.t 66))⟩),([0,1,2,3,4,5,6,7,8,9,10,11,12,13,14,15,16,17,18,19,20,21],⟨(some 68),(some (64,false)),(.load none (.t 67))⟩),([0,1,2,3,4,5,6,7,8,9,10,11,12,13,14,15,16,17,18,19,20,21,22],⟨(some 69),(some (64,false)),(.call 73 [.t 68])⟩),([0,1,2,3,4,5,6,7,8,9,10,11,12,13,14,15,16,17,18,19,20,21,22,23],⟨(some 70),(some (64,false)),(.un .not (.t 69))⟩),([0,1,2,3,4,5,6,7,8,9,10,11,12,13,14,15,16,17,18,19,20,21,22,23,24],pk 71 (.t 64) (kb true) (.t 70)),([0,1,2,3,4,5,6,7,8,9,10,11,12,13,14,15,16,17,18,19,20,21,22,23,24,25],mo 72 71),([0,1,2,3,4,5,6,7,8,9,10,11,12,13,14,15,16,17,18,19,20,21,22,23,24,25,26],⟨(some 73),(some (72,false)),(.mv (.t 0))⟩),([0,1,2,3,4,5,6,7,8,9,10,11,12,13,14,15,16,17,18,19,20,21,22,23,24,25,26,27],⟨(some 74),(some (72,false)),(.nilchk (.t 73))⟩),([0,1,2,3,4,5,6,7,8,9,10,11,12,13,14,15,16,17,18,19,20,21,22,23,24,25,26,27,28],⟨(some 75),(some (72,false)),(.faddr 11 (.t 74))⟩),([0,1,2,3,4,5,6,7,8,9,10,11,12,13,14,15,16,17,18,19,20,21,22,23,24,25,26,27,28,29],⟨(some 76),(some (72,false)),(.load none (.t 75))⟩),([0,1,2,3,4,5,6,7,8,9,10,11,12,13,14,15,16,17,18,19,20,21,22,23,24,25,26,27,28,29,30],⟨(some 77),(some (72,false)),(.call 73 [.t 76])⟩),([0,1,2,3,4,5,6,7,8,9,10,11,12,13,14,15,16,17,18,19,20,21,22,23,24,25,26,27,28,29,30,31],⟨(some 78),(some (72,false)),(.un .not (.t 77))⟩),([0,1,2,3,4,5,6,7,8,9,10,11,12,13,14,15,16,17,18,19,20,21,22,23,24,25,26,27,28,29,30,31,32],pk 79 (.t 72) (kb true) (.t 78)),([0,1,2,3,4,5,6,7,8,9,10,11,12,13,14,15,16,17,18,19,20,21,22,23,24,25,26,27,28,29,30,31,32,33],mo 80 79),([0,1,2,3,4,5,6,7,8,9,10,11,12,13,14,15,16,17,18,19,20,21,22,23,24,25,26,27,28,29,30,31,32,33,34],⟨(some 81),(some (80,false)),(.load (some 4) (.t 3))⟩),([0,1,2,3,4,5,6,7,8,9,10,11,12,13,14,15,16,17,18,19,20,21,22,23,24,25,26,27,28,29,30,31,32,33,34],⟨(some 82),(some (80,false)),(.mv (.t 0))⟩),([0,1,2,3,4,5,6,7,8,9,10,11,12,13,14,15,16,17,18,19,20,21,22,23,24,25,26,27,28,29,30,31,32,33,34,36],⟨(some 83),(some (80,false)),(.nilchk (.t 82))⟩),([0,1,2,3,4,5,6,7,8,9,10,11,12,13,14,15,16,17,18,19,20,21,22,23,24,25,26,27,28,29,30,31,32,33,34,36,37],⟨(some 84),(some (80,false)),(.faddr 10 (.t 83))⟩),([0,1,2,3,4,5,6,7,8,9,10,11,12,13,14,15,16,17,18,19,20,21,22,23,24,25,26,27,28,29,30,31,32,33,34,36,37,38],⟨(some 85),(some (80,false)),(.load none (.t 84))⟩),([0,1,2,3,4,5,6,7,8,9,10,11,12,13,14,15,16,17,18,19,20,21,22,23,24,25,26,27,28,29,30,31,32,33,34,35,36,37,38,39],⟨(some 86),(some (80,false)),(.call 74 [.t 81,.t 85])⟩),([0,1,2,3,4,5,6,7,8,9,10,11,12,13,14,15,16,17,18,19,20,21,22,23,24,25,26,27,28,29,30,31,32,33,34,35,36,37,38,39,40],⟨(some 87),(some (80,false)),(.un .not (.t 86))⟩),([0,1,2,3,4,5,6,7,8,9,10,11,12,13,14,15,16,17,18,19,20,21,22,23,24,25,26,27,28,29,30,31,32,33,34,35,36,37,38,39,40,41],pk 88 (.t 80) (kb true) (.t 87)),([0,1,2,3,4,5,6,7,8,9,10,11,12,13,14,15,16,17,18,19,20,21,22,23,24,25,26,27,28,29,30,31,32,33,34,35,36,37,38,39,40,41,42],mo 89 88),([0,1,2,3,4,5,6,7,8,9,10,11,12,13,14,15,16,17,18,19,20,21,22,23,24,25,26,27,28,29,30,31,32,33,34,35,36,37,38,39,40,41,42,43],⟨(some 90),(some (89,false)),(.load (some 4) (.t 3))⟩),([0,1,2,3,4,5,6,7,8,9,10,11,12,13,14,15,16,17,18,19,20,21,22,23,24,25,26,27,28,29,30,31,32,33,34,35,36,37,38,39,40,41,42,43],⟨(some 91),(some (89,false)),(.mv (.t 0))⟩),([0,1,2,3,4,5,6,7,8,9,10,11,12,13,14,15,16,17,18,19,20,21,22,23,24,25,26,27,28,29,30,31,32,33,34,35,36,37,38,39,40,41,42,43,45],⟨(some 92),(some (89,false)),(.nilchk (.t 91))⟩),([0,1,2,3,4,5,6,7,8,9,10,11,12,13,14,15,16,17,18,19,20,21,22,23,24,25,26,27,28,29,30,31,32,33,34,35,36,37,38,39,40,41,42,43,45,46],⟨(some 93),(some (89,false)),(.faddr 11 (.t 92))⟩),([0,1,2,3,4,5,6,7,8,9,10,11,12,13,14,15,16,17,18,19,20,21,22,23,24,25,26,27,28,29,30,31,32,33,34,35,36,37,38,39,40,41,42,43,45,46,47],⟨(some 94),(some (89,false)),(.load none (.t 93))⟩)] [⟨(some 95),(some (89,false)),(.call 74 [.t 90,.t 94])⟩,⟨(some 96),(some (89,false)),(.un .not (.t 95))⟩,pk 97 (.t 89) (kb true) (.t 96)]) (.trim [0,3,97] (.cond (.t 97) (.seq (.ops [oo 2 (.mv (kb false))]) (.keep ⟨[(2,0)],[],0⟩ .ret)) .skip))) (.trim [0,3] (.seq (.draw [([],ln 98 4 3),([],mo 99 0),([1],nk 100 99),([1,2],fa 101 11 100),([1,2,3],ld 102 101),([1,2,3,4],le 103 102)] [ca 104 75 [.t 98,.t 103],mo 2 104]) (.keep ⟨[(2,0)],[],0⟩ .ret))))
def g138_tf:TFn:=⟨(.seq (.ops [oo 2 (.mv (kb false))]) (.trim [0] (.seq (.ops [mo 4 0,nk 5 4,fa 6 4 5,ln 7 4 6,oo 3 (.alloc [(.int .i64 0),(.int .i64 0),(.int .i64 0),(.int .i64 0)]),⟨none,none,(.store 4 (.t 3) (.t 7))⟩]) (.trim [0,3] (.seq (.seq (.draw [([],mo 8 0),([0],nk 9 8),([0,1],fa 10 0 9),([0,1,2],ca 11 70 [.t 10]),([0,1,2,3],nt 12 11),([0,1,2,3,4],mo 13 12),([0,1,2,3,4,5],⟨(some 14),(some (13,false)),(.mv (.t 0))⟩),([0,1,2,3,4,5,6],⟨(some 15),(some (13,false)),(.nilchk (.t 14))⟩),([0,1,2,3,4,5,6,7],⟨(some 16),(some (13,false)),(.faddr 0 (.t 15))⟩),([0,1,2,3,4,5,6,7,8],⟨(some 17),(some (13,false)),(.faddr 1 (.t 16))⟩),([0,1,2,3,4,5,6,7,8,9],⟨(some 18),(some (13,false)),(.load none (.t 17))⟩),([0,1,2,3,4,5,6,7,8,9,10],⟨(some 19),(some (13,false)),(.len false (.t 18))⟩),([0,1,2,3,4,5,6,7,8,9,10,11],⟨(some 20),(some (13,false)),(.bin .num .gtr (.t 19) (ki 1))⟩),([0,1,2,3,4,5,6,7,8,9,10,11,12],⟨(some 21),(some (13,false)),(.mv (.t 20))⟩),([0,1,2,3,4,5,6,7,8,9,10,11,12,13],⟨(some 22),(some (21,true)),(.mv (.t 0))⟩),([0,1,2,3,4,5,6,7,8,9,10,11,12,13,14],⟨(some 23),(some (21,true)),(.nilchk (.t 22))⟩),([0,1,2,3,4,5,6,7,8,9,10,11,12,13,14,15],⟨(some 24),(some (21,true)),(.faddr 0 (.t 23))⟩),([0,1,2,3,4,5,6,7,8,9,10,11,12,13,14,15,16],⟨(some 25),(some (21,true)),(.faddr 3 (.t 24))⟩),([0,1,2,3,4,5,6,7,8,9,10,11,12,13,14,15,16,17],⟨(some 26),(some (21,true)),(.load none (.t 25))⟩),([0,1,2,3,4,5,6,7,8,9,10,11,12,13,14,15,16,17,18],⟨(some 27),(some (21,true)),(.un .not (.t 26))⟩),([0,1,2,3,4,5,6,7,8,9,10,11,12,13,14,15,16,17,18,19],⟨(some 28),(some (13,false)),(.pick (.t 21) (.t 27) (kb false))⟩),([0,1,2,3,4,5,6,7,8,9,10,11,12,13,14,15,16,17,18,19,20],pk 29 (.t 13) (kb true) (.t 28)),([0,1,2,3,4,5,6,7,8,9,10,11,12,13,14,15,16,17,18,19,20,21],mo 30 29),([0,1,2,3,4,5,6,7,8,9,10,11,12,13,14,15,16,17,18,19,20,21,22],⟨(some 31),(some (30,false)),(.load (some 4) (.t 3))⟩),([0,1,2,3,4,5,6,7,8,9,10,11,12,13,14,15,16,17,18,19,20,21,22,23],⟨(some 32),(some (30,false)),(.call 71 [.t 31])⟩),([0,1,2,3,4,5,6,7,8,9,10,11,12,13,14,15,16,17,18,19,20,21,22,23,24],⟨(some 33),(some (30,false)),(.un .not (.t 32))⟩),([0,1,2,3,4,5,6,7,8,9,10,11,12,13,14,15,16,17,18,19,20,21,22,23,24,25],pk 34 (.t 30) (kb true) (.t 33)),([0,1,2,3,4,5,6,7,8,9,10,11,12,13,14,15,16,17,18,19,20,21,22,23,24,25,26],mo 35 34),([0,1,2,3,4,5,6,7,8,9,10,11,12,13,14,15,16,17,18,19,20,21,22,23,24,25,26,27],⟨(some 36),(some (35,false)),(.faddr 0 (.t 3))⟩),([0,1,2,3,4,5,6,7,8,9,10,11,12,13,14,15,16,17,18,19,20,21,22,23,24,25,26,27,28],⟨(some 37),(some (35,false)),(.load none (.t 36))⟩),([0,1,2,3,4,5,6,7,8,9,10,11,12,13,14,15,16,17,18,19,20,21,22,23,24,25,26,27],⟨(some 38),(some (35,false)),(.mv (.t 0))⟩),([0,1,2,3,4,5,6,7,8,9,10,11,12,13,14,15,16,17,18,19,20,21,22,23,24,25,26,27,30],⟨(some 39),(some (35,false)),(.nilchk (.t 38))⟩),([0,1,2,3,4,5,6,7,8,9,10,11,12,13,14,15,16,17,18,19,20,21,22,23,24,25,26,27,30,31],⟨(some 40),(some (35,false)),(.faddr 0 (.t 39))⟩),([0,1,2,3,4,5,6,7,8,9,10,11,12,13,14,15,16,17,18,19,20,21,22,23,24,25,26,27,30,31,32],⟨(some 41),(some (35,false)),(.faddr 0 (.t 40))⟩),([0,1,2,3,4,5,6,7,8,9,10,11,12,13,14,15,16,17,18,19,20,21,22,23,24,25,26,27,30,31,32,33],⟨(some 42),(some (35,false)),(.load none (.t 41))⟩),([0,1,2,3,4,5,6,7,8,9,10,11,12,13,14,15,16,17,18,19,20,21,22,23,24,25,26,27,30,31,32,33,34],⟨(some 43),(some (35,false)),(.len false (.t 42))⟩)] [⟨(some 44),(some (35,false)),(.bin .num .neq (.t 37) (.t 43))⟩,pk 45 (.t 35) (kb true) (.t 44)]) (.trim [0,3,45] (.cond (.t 45) (.seq (.ops [oo 2 (.mv (kb false))]) (.keep ⟨[(2,0)],[],0⟩ .ret)) (.keep ⟨[(0,0),(3,0)],[(0,0)],0⟩ .skip)))) (.trim [0,3] g138p1_c)))))),[.t 2]⟩
abbrev g138_S:=Sys.on [(70,g137_r),(71,g51_r),(72,g136_r),(73,g80_r),(74,g66_r),(75,g98_r)] []
@[reducible,simp] def g138p1_F:Bool → Out:=(fun t=>(.ret,[(2,(.bool t))],[]))
def spec_l12Ok_p1 (v4:List Str) (v5:List (Int × Str)) (v6:Int) (v7:Bool) (v8:Int) (v9:Int) (v10:Int) (v11:Int) (v12:Int) (v13:Int) (v14:List (Int × Str)) (v15:List (Int × Str)) (v16:Int × Int × Int × Int):Option (Bool):=(spec_l00In v12 v16.2.2.1 1000000000000).bind fun r17=>if ¬(r17 = true) then some false else (spec_l00In v13 0 v16.2.1).bind fun r18=>if ¬(r18 = true) then some false else (spec_l11Pages v14).bind fun r19=>if ¬(r19 = true) then some false else (spec_l11Pages v15).bind fun r20=>if ¬(r20 = true) then some false else (spec_l11Within v16 v14).bind fun r21=>if ¬(r21 = true) then some false else (spec_l11Within v16 v15).bind fun r22=>if ¬(r22 = true) then some false else (spec_l12Fits v16 ((v15.length:Int))).bind fun r23=>some r23
@[simp] theorem g138p1_eq (q0:List TV)(y0 y1 y2 y3 y4 y5 y6 y7 y8 y9 y10 y11 y12 y13 y14 y15):X g138_S g138p1_c [(0,(.vp ((.vs (rows y0))::(.vs (rows y1))::(.int .i64 y2)::(.bool y3)::(.int .i64 y4)::(.int .i64 y5)::(.int .i64 y6)::(.int .i64 y7)::(.int .i64 y8)::(.int .i64 y9)::(.vs (rows y10))::(.vs (rows y11))::q0))),(3,(.ptr 0 0 0))] [(.live 4 [[(.int .i64 y12),(.int .i64 y13),(.int .i64 y14),(.int .i64 y15)]])] = (spec_l12Ok_p1 y0 y1 y2 y3 y4 y5 y6 y7 y8 y9 y10 y11 ((y12,y13,y14,y15))).map g138p1_F:=by
  simp (maxSteps:=2000000) (maxDischargeDepth:=8) -implicitDefEqProofs [g138p1_c,spec_l12Ok_p1] <;> (try simp only [map_to_bind,g138p1_F])
def spec_l12Ok (a_p:K1):Option (Bool):=(spec_l09Ok a_p.1).bind fun r1=>if ¬(r1 = true) then some false else if (a_p.1.2.1.length:Int) > 1 then if ¬(a_p.1.2.2.2 = true) then some false else (spec_ValidSuper a_p.2.1).bind fun r2=>if ¬(r2 = true) then some false else if ¬(a_p.2.1.1 = (a_p.1.1.length:Int)) then some false else (spec_l12Ok_p1 a_p.1.1 a_p.1.2.1 a_p.1.2.2.1 a_p.1.2.2.2 a_p.2.1.1 a_p.2.1.2.1 a_p.2.1.2.2.1 a_p.2.1.2.2.2 a_p.2.2.1 a_p.2.2.2.1 a_p.2.2.2.2.1 a_p.2.2.2.2.2 a_p.2.1).bind fun r24=>some r24 else (spec_ValidSuper a_p.2.1).bind fun r3=>if ¬(r3 = true) then some false else if ¬(a_p.2.1.1 = (a_p.1.1.length:Int)) then some false else (spec_l12Ok_p1 a_p.1.1 a_p.1.2.1 a_p.1.2.2.1 a_p.1.2.2.2 a_p.2.1.1 a_p.2.1.2.1 a_p.2.1.2.2.1 a_p.2.1.2.2.2 a_p.2.2.1 a_p.2.2.2.1 a_p.2.2.2.2.1 a_p.2.2.2.2.2 a_p.2.1).bind fun r25=>some r25
@[simp] def g138_O:Bool → TV × List Blk:=fun r=>((.bool r),[])
def g138_E (a:K1 × List TV):List TV:=[(.vp ((.vs (rows a.1.1.1))::(.vs (rows a.1.1.2.1))::(.int .i64 a.1.1.2.2.1)::(.bool a.1.1.2.2.2)::(.int .i64 a.1.2.1.1)::(.int .i64 a.1.2.1.2.1)::(.int .i64 a.1.2.1.2.2.1)::(.int .i64 a.1.2.1.2.2.2)::(.int .i64 a.1.2.2.1)::(.int .i64 a.1.2.2.2.1)::(.vs (rows a.1.2.2.2.2.1))::(.vs (rows a.1.2.2.2.2.2))::a.2))]
theorem g138_run (a_p:K1) (q0:List TV):callFn (X g138_S) g138_tf (g138_E (a_p,q0)) [] = (spec_l12Ok a_p).map g138_O:=by
  rw [callFn_eq]
  simp (maxSteps:=2000000) (maxDischargeDepth:=8) -implicitDefEqProofs [g138_tf,spec_l12Ok,g138_E] <;> (try simp only [map_to_bind,g138_O])
def g138_r:Rule:=RlO g138_E (fun a=>spec_l12Ok a.1) g138_O
theorem g138_ok:RuleOk Tryz.prog 31 g138_r:=ok_rlo (S:=g138_S) (tf:=g138_tf) (SysOk.on ⟨g137_ok,g51_ok,g136_ok,g80_ok,g66_ok,g98_ok,trivial⟩ trivial) (trE_ok (ks:=[[36],[49],[6]]) Tryz.func31 (by kernel_rfl)) fun a=>g138_run a.1 a.2
@[simp] theorem g138_app (y0 y1 y2 y3 y4 y5 y6 y7 y8 y9 y10 y11)(q0:List TV):g138_r [(.vp ((.vs (rows y0))::(.vs (rows y1))::(.int .i64 y2)::(.bool y3)::(.int .i64 y4)::(.int .i64 y5)::(.int .i64 y6)::(.int .i64 y7)::(.int .i64 y8)::(.int .i64 y9)::(.vs (rows y10))::(.vs (rows y11))::q0))] = (spec_l12Ok (((y0,y1,y2,y3),(y4,y5,y6,y7),y8,y9,y10,y11))).map g138_O :=
  RlO_app (enc:=g138_E) (by intro a b h; simp [g138_E,Prod.ext_iff] at h ⊢; simp [h]) (((y0,y1,y2,y3),(y4,y5,y6,y7),y8,y9,y10,y11),q0)
/-! spec.l09Own -/
def g121_tf:TFn:=⟨(.seq (.ops [oo 2 (.alloc [.nils,.nils,(.int .i64 0),(.bool false)])]) (.trim [0,2] (.seq (.draw [([],oo 3 (.bslice [(.str [])] 0 [])),([],mo 4 0),([1],nk 5 4),([1,2],fa 6 0 5),([1,2,3],ld 7 6),([0,1,2,3,4],oo 8 (.append 9 1 16 (.t 3) (.t 7))),([],oo 9 (.bslice [(.int .i64 0),(.str [])] 0 [])),([],mo 10 0),([7],nk 11 10),([7,8],fa 12 1 11),([7,8,9],ld 13 12),([0,1,2,3,4,5,6,7,8,9,10],oo 14 (.append 156 2 24 (.t 9) (.t 13))),([],mo 15 0),([12],nk 16 15),([12,13],fa 17 2 16),([12,13,14],ld 18 17),([],mo 19 0),([16],nk 20 19),([16,17],fa 21 3 20),([16,17,18],ld 22 21)] [oo 23 (.build [.nils,.nils,(.int .i64 0),(.bool false)] [(0,1,(.t 8)),(1,1,(.t 14)),(2,1,(.t 18)),(3,1,(.t 22))]),⟨none,none,(.store 4 (.t 2) (.t 23))⟩]) (.keep ⟨[(2,0)],[(0,2),(1,1),(2,1)],0⟩ .ret)))),[.cell 2 (some 4)]⟩
abbrev g121_S:=Sys.on [] []
def spec_l09Own (a_d:K0):Option (K0):=(appL 16 ([]:List Str) a_d.1).bind fun l1=>(appL 24 ([]:List (Int × Str)) a_d.2.1).bind fun l2=>some ((l1,l2,a_d.2.2.1,a_d.2.2.2))
@[simp] def g121_O:(K0) → TV × List Blk:=fun r=>((.agg [(ow 1 r.1.length),(ow 2 r.2.1.length),(.int .i64 r.2.2.1),(.bool r.2.2.2)]),[(.live 4 [[(ow 1 r.1.length),(ow 2 r.2.1.length),(.int .i64 r.2.2.1),(.bool r.2.2.2)]]),(ob 1 r.1),(ob 2 r.2.1)])
def g121_E (a:K0 × List TV):List TV:=[(.vp ((.vs (rows a.1.1))::(.vs (rows a.1.2.1))::(.int .i64 a.1.2.2.1)::(.bool a.1.2.2.2)::a.2))]
theorem g121_run (a_d:K0) (q0:List TV):callFn (X g121_S) g121_tf (g121_E (a_d,q0)) [] = (spec_l09Own a_d).map g121_O:=by
  rw [callFn_eq]
  simp (maxSteps:=2000000) (maxDischargeDepth:=8) -implicitDefEqProofs [g121_tf,spec_l09Own,g121_E] <;> (try simp only [map_to_bind,g121_O])
def g121_r:Rule:=RlO g121_E (fun a=>spec_l09Own a.1) g121_O
theorem g121_ok:RuleOk Tryz.prog 76 g121_r:=ok_rlo (S:=g121_S) (tf:=g121_tf) (SysOk.on trivial trivial) (trE_ok (ks:=[[20]]) Tryz.func76 (by kernel_rfl)) fun a=>g121_run a.1 a.2
@[simp] theorem g121_app (y0 y1 y2 y3)(q0:List TV):g121_r [(.vp ((.vs (rows y0))::(.vs (rows y1))::(.int .i64 y2)::(.bool y3)::q0))] = (spec_l09Own ((y0,y1,y2,y3))).map g121_O :=
  RlO_app (enc:=g121_E) (by intro a b h; simp [g121_E,Prod.ext_iff] at h ⊢; simp [h]) ((y0,y1,y2,y3),q0)
/-! spec.l12Pages -/
def g82_tf:TFn:=⟨(.seq (.ops [oo 2 (.mv (.c .nils))]) (.trim [0] (.seq (.ops [oo 3 (.bslice [(.int .i64 0),(.str [])] 0 []),mo 4 0,oo 5 (.append 125 2 24 (.t 3) (.t 4)),mo 2 5]) (.keep ⟨[(2,1)],[(0,1)],0⟩ .ret)))),[.t 2]⟩
abbrev g82_S:=Sys.on [] []
def spec_l12Pages (a_list:List (Int × Str)):Option ((List (Int × Str))):=(appL 24 ([]:List (Int × Str)) a_list).bind fun l1=>some l1
@[simp] def g82_O:((List (Int × Str))) → TV × List Blk:=fun r=>((ow 0 r.length),[(ob 2 r)])
def g82_E (a:(List (Int × Str))):List TV:=[(.vs (rows a))]
theorem g82_run (a_list:List (Int × Str)) :callFn (X g82_S) g82_tf (g82_E a_list) [] = (spec_l12Pages a_list).map g82_O:=by
  rw [callFn_eq]
  simp (maxSteps:=2000000) (maxDischargeDepth:=8) -implicitDefEqProofs [g82_tf,spec_l12Pages,g82_E] <;> (try simp only [map_to_bind,g82_O])
def g82_r:Rule:=RlO g82_E (fun a=>spec_l12Pages a) g82_O
theorem g82_ok:RuleOk Tryz.prog 77 g82_r:=ok_rlo (S:=g82_S) (tf:=g82_tf) (SysOk.on trivial trivial) (trE_ok (ks:=[]) Tryz.func77 (by kernel_rfl)) fun a=>g82_run a
@[simp] theorem g82_app (y0):g82_r [(.vs (rows y0))] = (spec_l12Pages y0).map g82_O :=
  RlO_app (enc:=g82_E) (by intro a b h; simp [g82_E,Prod.ext_iff] at h ⊢; simp [h]) y0
/-! spec.l12Own -/
def g122_tf:TFn:=⟨(.seq (.ops [oo 2 (.alloc [.nils,.nils,(.int .i64 0),(.bool false),(.int .i64 0),(.int .i64 0),(.int .i64 0),(.int .i64 0),(.int .i64 0),(.int .i64 0),.nils,.nils])]) (.trim [0,2] (.seq (.draw [([],mo 3 0),([0],nk 4 3),([0,1],fa 5 0 4),([0,1,2],ca 6 76 [.t 5]),([],mo 7 0),([4],nk 8 7),([4,5],fa 9 4 8),([4,5,6],ln 10 4 9),([],mo 11 0),([8],nk 12 11),([8,9],fa 13 8 12),([8,9,10],ld 14 13),([],mo 15 0),([12],nk 16 15),([12,13],fa 17 9 16),([12,13,14],ld 18 17),([],mo 19 0),([16],nk 20 19),([16,17],fa 21 10 20),([16,17,18],ld 22 21),([0,1,2,3,16,17,18,19],ca 23 77 [.t 22]),([],mo 24 0),([21],nk 25 24),([21,22],fa 26 11 25),([21,22,23],ld 27 26),([0,1,2,3,16,17,18,19,20,21,22,23,24],ca 28 77 [.t 27])] [oo 29 (.build [.nils,.nils,(.int .i64 0),(.bool false),(.int .i64 0),(.int .i64 0),(.int .i64 0),(.int .i64 0),(.int .i64 0),(.int .i64 0),.nils,.nils] [(0,4,(.t 6)),(4,4,(.t 10)),(8,1,(.t 14)),(9,1,(.t 18)),(10,1,(.t 23)),(11,1,(.t 28))]),⟨none,none,(.store 12 (.t 2) (.t 29))⟩]) (.keep ⟨[(2,0)],[(0,2),(2,1),(3,1),(4,1),(5,1)],0⟩ .ret)))),[.cell 2 (some 12)]⟩
abbrev g122_S:=Sys.on [(76,g121_r),(77,g82_r)] []
def spec_l12Own (a_p:K1):Option (K1):=(spec_l09Own a_p.1).bind fun r1=>(spec_l12Pages a_p.2.2.2.2.1).bind fun r2=>(spec_l12Pages a_p.2.2.2.2.2).bind fun r3=>some ((r1,a_p.2.1,a_p.2.2.1,a_p.2.2.2.1,r2,r3))
@[simp] def g122_O:(K1) → TV × List Blk:=fun r=>((.agg [(ow 1 r.1.1.length),(ow 2 r.1.2.1.length),(.int .i64 r.1.2.2.1),(.bool r.1.2.2.2),(.int .i64 r.2.1.1),(.int .i64 r.2.1.2.1),(.int .i64 r.2.1.2.2.1),(.int .i64 r.2.1.2.2.2),(.int .i64 r.2.2.1),(.int .i64 r.2.2.2.1),(ow 3 r.2.2.2.2.1.length),(ow 4 r.2.2.2.2.2.length)]),[(.live 12 [[(ow 1 r.1.1.length),(ow 2 r.1.2.1.length),(.int .i64 r.1.2.2.1),(.bool r.1.2.2.2),(.int .i64 r.2.1.1),(.int .i64 r.2.1.2.1),(.int .i64 r.2.1.2.2.1),(.int .i64 r.2.1.2.2.2),(.int .i64 r.2.2.1),(.int .i64 r.2.2.2.1),(ow 3 r.2.2.2.2.1.length),(ow 4 r.2.2.2.2.2.length)]]),(ob 1 r.1.1),(ob 2 r.1.2.1),(ob 2 r.2.2.2.2.1),(ob 2 r.2.2.2.2.2)])
def g122_E (a:K1 × List TV):List TV:=[(.vp ((.vs (rows a.1.1.1))::(.vs (rows a.1.1.2.1))::(.int .i64 a.1.1.2.2.1)::(.bool a.1.1.2.2.2)::(.int .i64 a.1.2.1.1)::(.int .i64 a.1.2.1.2.1)::(.int .i64 a.1.2.1.2.2.1)::(.int .i64 a.1.2.1.2.2.2)::(.int .i64 a.1.2.2.1)::(.int .i64 a.1.2.2.2.1)::(.vs (rows a.1.2.2.2.2.1))::(.vs (rows a.1.2.2.2.2.2))::a.2))]
theorem g122_run (a_p:K1) (q0:List TV):callFn (X g122_S) g122_tf (g122_E (a_p,q0)) [] = (spec_l12Own a_p).map g122_O:=by
  rw [callFn_eq]
  simp (maxSteps:=2000000) (maxDischargeDepth:=8) -implicitDefEqProofs [g122_tf,spec_l12Own,g122_E] <;> (try simp only [map_to_bind,g122_O])
def g122_r:Rule:=RlO g122_E (fun a=>spec_l12Own a.1) g122_O
theorem g122_ok:RuleOk Tryz.prog 32 g122_r:=ok_rlo (S:=g122_S) (tf:=g122_tf) (SysOk.on ⟨g121_ok,g82_ok,trivial⟩ trivial) (trE_ok (ks:=[[26]]) Tryz.func32 (by kernel_rfl)) fun a=>g122_run a.1 a.2
@[simp] theorem g122_app (y0 y1 y2 y3 y4 y5 y6 y7 y8 y9 y10 y11)(q0:List TV):g122_r [(.vp ((.vs (rows y0))::(.vs (rows y1))::(.int .i64 y2)::(.bool y3)::(.int .i64 y4)::(.int .i64 y5)::(.int .i64 y6)::(.int .i64 y7)::(.int .i64 y8)::(.int .i64 y9)::(.vs (rows y10))::(.vs (rows y11))::q0))] = (spec_l12Own (((y0,y1,y2,y3),(y4,y5,y6,y7),y8,y9,y10,y11))).map g122_O :=
  RlO_app (enc:=g122_E) (by intro a b h; simp [g122_E,Prod.ext_iff] at h ⊢; simp [h]) (((y0,y1,y2,y3),(y4,y5,y6,y7),y8,y9,y10,y11),q0)
/-! spec.l11Find -/
def g99l1_cb:TC:=(.seq (.seq (.ops [mo 6 5,mo 7 0,le 8 7,bn 9 .lss (.t 6) (.t 8)]) (.trim [0,1,5,9] (.cond (.t 9) .skip (.keep ⟨[],[],0⟩ (.exit 0))))) (.trim [0,1,5] (.seq (.block 1 (.seq (.ops [mo 12 0,mo 13 5,ia 14 2 12 13,fa 15 0 14,ld 16 15,mo 17 1,bn 18 .eql (.t 16) (.t 17)]) (.trim [0,1,5,18] (.cond (.t 18) (.seq (.ops [mo 19 5,mo 4 19]) (.keep ⟨[(4,0)],[],0⟩ .ret)) .skip)))) (.trim [0,1,5] (.after (.ops [mo 10 5,bn 11 .add (.t 10) (ki 1),mo 5 11]) ⟨[(0,0),(1,0),(5,0)],[],0⟩)))))
def g99l1_c:TC:=.loop [0,1,5] g99l1_cb
def g99_tf:TFn:=⟨(.seq (.ops [oo 4 (.mv (ki 0))]) (.trim [0,1] (.seq (.seq (.ops [oo 5 (.mv (ki 0))]) (.trim [0,1,5] (.block 0 (.keep ⟨[(0,0),(1,0),(5,0)],[],0⟩ g99l1_c)))) (.trim [] (.seq (.ops [oo 4 (.mv (ki (-1)))]) (.keep ⟨[(4,0)],[],0⟩ .ret)))))),[.t 4]⟩
abbrev g99_S:=Sys.on [] []
@[reducible,simp] def g99l1_F:((Unit) ⊕ (Int)) → Out:=(Sum.elim (fun t=>(.ext 0,[],[])) (fun t=>(.ret,[(4,(.int .i64 t))],[])))
def spec_l11Find_l1_b (v1:List (Int × Str)) (v2:Int) (v3:Int):Option ((Int) ⊕ ((Unit) ⊕ (Int))):=if v3 < (v1.length:Int) then if 0 ≤ v3 then (v1[(v3).toNat]?).bind fun x4=>if x4.1 = v2 then some (.inr (.inr v3)) else some (.inl ((IntKind.i64.wrap (v3 + 1)))) else none else some (.inr (.inl ()))
theorem g99l1_b_eq  (v1:List (Int × Str)) (v2:Int) (v3:Int):X g99_S g99l1_cb (keepEnv [0,1,5] [(0,(.vs (rows v1))),(1,(.int .i64 v2)),(5,(.int .i64 v3))]) [] = (spec_l11Find_l1_b v1 v2 v3).map (Sum.elim (fun s=>(TX.nrm,[(0,(.vs (rows v1))),(1,(.int .i64 v2)),(5,(.int .i64 s))],[])) g99l1_F):=by
  simp (maxSteps:=2000000) (maxDischargeDepth:=8) -implicitDefEqProofs [g99l1_cb,spec_l11Find_l1_b] <;> (try simp only [map_to_bind,g99l1_F])
def spec_l11Find_l1 (v1:List (Int × Str)) (v2:Int) (s:Int):Option ((Unit) ⊕ (Int)):=loopO (fun s=>spec_l11Find_l1_b v1 v2 s) s
@[simp] theorem g99l1_eq (y0 y1 y2):X g99_S g99l1_c [(0,(.vs (rows y0))),(1,(.int .i64 y1)),(5,(.int .i64 y2))] [] = (spec_l11Find_l1 y0 y1 y2).map g99l1_F:=by
  exact loop_X _ _ _ _ (by intro r; first | (simp; done) | (rcases r with r | r <;> simp; done) | (rcases r with r | r | r <;> simp; done) | (rcases r with r | r | r | r <;> simp)) (fun s=>g99l1_b_eq  y0 y1 s) y2
def spec_l11Find (a_list:List (Int × Str)) (a_block:Int):Option (Int):=(spec_l11Find_l1 a_list a_block 0).bind fun r5=>Sum.elim (fun u6=>some ((-1))) (fun u7=>some u7) r5
@[simp] def g99_O:Int → TV × List Blk:=fun r=>((.int .i64 r),[])
def g99_E (a:(List (Int × Str)) × Int):List TV:=[(.vs (rows a.1)),(.int .i64 a.2)]
theorem g99_run (a_list:List (Int × Str)) (a_block:Int) :callFn (X g99_S) g99_tf (g99_E (a_list,a_block)) [] = (spec_l11Find a_list a_block).map g99_O:=by
  rw [callFn_eq]
  simp (maxSteps:=2000000) (maxDischargeDepth:=8) -implicitDefEqProofs [g99_tf,spec_l11Find,g99_E] <;> (try simp only [map_to_bind,g99_O])
def g99_r:Rule:=RlO g99_E (fun a=>spec_l11Find a.1 a.2) g99_O
theorem g99_ok:RuleOk Tryz.prog 165 g99_r:=ok_rlo (S:=g99_S) (tf:=g99_tf) (SysOk.on trivial trivial) (trE_ok (ks:=[[0,1,5]]) Tryz.func165 (by kernel_rfl)) fun a=>g99_run a.1 a.2
@[simp] theorem g99_app (y0 y1):g99_r [(.vs (rows y0)),(.int .i64 y1)] = (spec_l11Find y0 y1).map g99_O :=
  RlO_app (enc:=g99_E) (by intro a b h; simp [g99_E,Prod.ext_iff] at h ⊢; simp [h]) (y0,y1)
/-! spec.l09Read -/
def g100l1_cb:TC:=(.seq (.seq (.ops [mo 12 5,bn 13 .geq (.t 12) (ki 0)]) (.trim [0,1,5,13] (.cond (.t 13) .skip (.keep ⟨[(0,0),(1,0)],[],0⟩ (.exit 0))))) (.trim [0,1,5] (.seq (.block 1 (.seq (.ops [mo 16 0,nk 17 16,fa 18 1 17,ld 19 18,mo 20 5,ia 21 2 19 20,fa 22 0 21,ld 23 22,mo 24 1,bn 25 .eql (.t 23) (.t 24)]) (.trim [0,1,5,25] (.cond (.t 25) (.seq (.ops [mo 26 0,nk 27 26,fa 28 1 27,ld 29 28,mo 30 5,ia 31 2 29 30,fa 32 1 31,ld 33 32,mo 4 33]) (.keep ⟨[(4,0)],[],0⟩ .ret)) .skip)))) (.trim [0,1,5] (.after (.ops [mo 14 5,bn 15 .sub (.t 14) (ki 1),mo 5 15]) ⟨[(0,0),(1,0),(5,0)],[],0⟩)))))
def g100l1_c:TC:=.loop [0,1,5] g100l1_cb
def g100_tf:TFn:=⟨(.seq (.ops [oo 4 (.mv (.c (.str [])))]) (.trim [0,1] (.seq (.seq (.ops [mo 6 0,nk 7 6,fa 8 1 7,ld 9 8,le 10 9,bn 11 .sub (.t 10) (ki 1),mo 5 11]) (.trim [0,1,5] (.block 0 (.keep ⟨[(0,0),(1,0),(5,0)],[],0⟩ g100l1_c)))) (.trim [0,1] (.seq (.ops [mo 34 0,nk 35 34,fa 36 0 35,ld 37 36,mo 38 1,ia 39 1 37 38,ld 40 39,mo 4 40]) (.keep ⟨[(4,0)],[],0⟩ .ret)))))),[.t 4]⟩
abbrev g100_S:=Sys.on [] []
def spec_l09Read_l1_b (v1:List Str) (v2:List (Int × Str)) (v3:Int) (v4:Bool) (v5:Int) (v6:Int):Option ((Int) ⊕ ((List Str × (List (Int × Str)) × Int × Bool × Int) ⊕ (Str))):=if v6 ≥ 0 then if 0 ≤ v6 then (v2[(v6).toNat]?).bind fun x7=>if x7.1 = v5 then if 0 ≤ v6 then (v2[(v6).toNat]?).bind fun x8=>some (.inr (.inr x8.2)) else none else some (.inl ((IntKind.i64.wrap (v6 - 1)))) else none else some (.inr (.inl (v1,v2,v3,v4,v5)))
theorem g100l1_b_eq (q0:List TV) (v1:List Str) (v2:List (Int × Str)) (v3:Int) (v4:Bool) (v5:Int) (v6:Int):X g100_S g100l1_cb (keepEnv [0,1,5] [(0,(.vp ((.vs (rows v1))::(.vs (rows v2))::(.int .i64 v3)::(.bool v4)::q0))),(1,(.int .i64 v5)),(5,(.int .i64 v6))]) [] = (spec_l09Read_l1_b v1 v2 v3 v4 v5 v6).map (Sum.elim (fun s=>(TX.nrm,[(0,(.vp ((.vs (rows v1))::(.vs (rows v2))::(.int .i64 v3)::(.bool v4)::q0))),(1,(.int .i64 v5)),(5,(.int .i64 s))],[])) (Sum.elim (fun t=>(.ext 0,[(0,(.vp ((.vs (rows t.1))::(.vs (rows t.2.1))::(.int .i64 t.2.2.1)::(.bool t.2.2.2.1)::q0))),(1,(.int .i64 t.2.2.2.2))],[])) (fun t=>(.ret,[(4,(.str t))],[])))):=by
  simp (maxSteps:=2000000) (maxDischargeDepth:=8) -implicitDefEqProofs [g100l1_cb,spec_l09Read_l1_b] <;> (try simp only [map_to_bind])
def spec_l09Read_l1 (v1:List Str) (v2:List (Int × Str)) (v3:Int) (v4:Bool) (v5:Int) (s:Int):Option ((List Str × (List (Int × Str)) × Int × Bool × Int) ⊕ (Str)):=loopO (fun s=>spec_l09Read_l1_b v1 v2 v3 v4 v5 s) s
@[simp] theorem g100l1_eq (q0:List TV)(y0 y1 y2 y3 y4 y5):X g100_S g100l1_c [(0,(.vp ((.vs (rows y0))::(.vs (rows y1))::(.int .i64 y2)::(.bool y3)::q0))),(1,(.int .i64 y4)),(5,(.int .i64 y5))] [] = (spec_l09Read_l1 y0 y1 y2 y3 y4 y5).map (Sum.elim (fun t=>(.ext 0,[(0,(.vp ((.vs (rows t.1))::(.vs (rows t.2.1))::(.int .i64 t.2.2.1)::(.bool t.2.2.2.1)::q0))),(1,(.int .i64 t.2.2.2.2))],[])) (fun t=>(.ret,[(4,(.str t))],[]))):=by
  exact loop_X _ _ _ _ (by intro r; first | (simp; done) | (rcases r with r | r <;> simp; done) | (rcases r with r | r | r <;> simp; done) | (rcases r with r | r | r | r <;> simp)) (fun s=>g100l1_b_eq q0 y0 y1 y2 y3 y4 s) y5
def spec_l09Read (a_d:K0) (a_k:Int):Option (Str):=(spec_l09Read_l1 a_d.1 a_d.2.1 a_d.2.2.1 a_d.2.2.2 a_k (((IntKind.i64.wrap ((a_d.2.1.length:Int) - 1))))).bind fun r9=>Sum.elim (fun u10=>if 0 ≤ u10.2.2.2.2 then (u10.1[(u10.2.2.2.2).toNat]?).bind fun x12=>some x12 else none) (fun u11=>some u11) r9
@[simp] def g100_O:Str → TV × List Blk:=fun r=>((.str r),[])
def g100_E (a:K0 × Int × List TV):List TV:=[(.vp ((.vs (rows a.1.1))::(.vs (rows a.1.2.1))::(.int .i64 a.1.2.2.1)::(.bool a.1.2.2.2)::a.2.2)),(.int .i64 a.2.1)]
theorem g100_run (a_d:K0) (a_k:Int) (q0:List TV):callFn (X g100_S) g100_tf (g100_E (a_d,a_k,q0)) [] = (spec_l09Read a_d a_k).map g100_O:=by
  rw [callFn_eq]
  simp (maxSteps:=2000000) (maxDischargeDepth:=8) -implicitDefEqProofs [g100_tf,spec_l09Read,g100_E] <;> (try simp only [map_to_bind,g100_O])
def g100_r:Rule:=RlO g100_E (fun a=>spec_l09Read a.1 a.2.1) g100_O
theorem g100_ok:RuleOk Tryz.prog 166 g100_r:=ok_rlo (S:=g100_S) (tf:=g100_tf) (SysOk.on trivial trivial) (trE_ok (ks:=[[0,1,5]]) Tryz.func166 (by kernel_rfl)) fun a=>g100_run a.1 a.2.1 a.2.2
@[simp] theorem g100_app (y0 y1 y2 y3 y4)(q0:List TV):g100_r [(.vp ((.vs (rows y0))::(.vs (rows y1))::(.int .i64 y2)::(.bool y3)::q0)),(.int .i64 y4)] = (spec_l09Read ((y0,y1,y2,y3)) y4).map g100_O :=
  RlO_app (enc:=g100_E) (by intro a b h; simp [g100_E,Prod.ext_iff] at h ⊢; simp [h]) ((y0,y1,y2,y3),y4,q0)
/-! spec.l12Get -/
def g123_tf:TFn:=⟨(.seq (.ops [oo 4 (.mv (.c (.str [])))]) (.trim [0,1] (.seq (.seq (.ops [mo 7 0,nk 8 7,fa 9 11 8,ld 10 9,mo 11 1,ca 12 165 [.t 10,.t 11],mo 5 12]) (.trim [0,1,5] (.seq (.ops [mo 13 5,bn 14 .geq (.t 13) (ki 0)]) (.trim [0,1,5,14] (.cond (.t 14) (.seq (.ops [mo 15 0,nk 16 15,fa 17 11 16,ld 18 17,mo 19 5,ia 20 2 18 19,fa 21 1 20,ld 22 21,mo 4 22]) (.keep ⟨[(4,0)],[],0⟩ .ret)) .skip))))) (.trim [0,1] (.seq (.seq (.ops [mo 23 0,nk 24 23,fa 25 10 24,ld 26 25,mo 27 1,ca 28 165 [.t 26,.t 27],mo 6 28]) (.trim [0,1,6] (.seq (.ops [mo 29 6,bn 30 .geq (.t 29) (ki 0)]) (.trim [0,1,6,30] (.cond (.t 30) (.seq (.ops [mo 31 0,nk 32 31,fa 33 10 32,ld 34 33,mo 35 6,ia 36 2 34 35,fa 37 1 36,ld 38 37,mo 4 38]) (.keep ⟨[(4,0)],[],0⟩ .ret)) .skip))))) (.trim [0,1] (.seq (.ops [mo 39 0,nk 40 39,fa 41 0 40,mo 42 1,ca 43 166 [.t 41,.t 42],mo 4 43]) (.keep ⟨[(4,0)],[],0⟩ .ret)))))))),[.t 4]⟩
abbrev g123_S:=Sys.on [(165,g99_r),(166,g100_r)] []
def spec_l12Get (a_p:K1) (a_k:Int):Option (Str):=(spec_l11Find a_p.2.2.2.2.2 a_k).bind fun r1=>if r1 ≥ 0 then if 0 ≤ r1 then (a_p.2.2.2.2.2[(r1).toNat]?).bind fun x2=>some x2.2 else none else (spec_l11Find a_p.2.2.2.2.1 a_k).bind fun r3=>if r3 ≥ 0 then if 0 ≤ r3 then (a_p.2.2.2.2.1[(r3).toNat]?).bind fun x4=>some x4.2 else none else (spec_l09Read a_p.1 a_k).bind fun r5=>some r5
@[simp] def g123_O:Str → TV × List Blk:=fun r=>((.str r),[])
def g123_E (a:K1 × Int × List TV):List TV:=[(.vp ((.vs (rows a.1.1.1))::(.vs (rows a.1.1.2.1))::(.int .i64 a.1.1.2.2.1)::(.bool a.1.1.2.2.2)::(.int .i64 a.1.2.1.1)::(.int .i64 a.1.2.1.2.1)::(.int .i64 a.1.2.1.2.2.1)::(.int .i64 a.1.2.1.2.2.2)::(.int .i64 a.1.2.2.1)::(.int .i64 a.1.2.2.2.1)::(.vs (rows a.1.2.2.2.2.1))::(.vs (rows a.1.2.2.2.2.2))::a.2.2)),(.int .i64 a.2.1)]
theorem g123_run (a_p:K1) (a_k:Int) (q0:List TV):callFn (X g123_S) g123_tf (g123_E (a_p,a_k,q0)) [] = (spec_l12Get a_p a_k).map g123_O:=by
  rw [callFn_eq]
  simp (maxSteps:=2000000) (maxDischargeDepth:=8) -implicitDefEqProofs [g123_tf,spec_l12Get,g123_E] <;> (try simp only [map_to_bind,g123_O])
def g123_r:Rule:=RlO g123_E (fun a=>spec_l12Get a.1 a.2.1) g123_O
theorem g123_ok:RuleOk Tryz.prog 128 g123_r:=ok_rlo (S:=g123_S) (tf:=g123_tf) (SysOk.on ⟨g99_ok,g100_ok,trivial⟩ trivial) (trE_ok (ks:=[]) Tryz.func128 (by kernel_rfl)) fun a=>g123_run a.1 a.2.1 a.2.2
@[simp] theorem g123_app (y0 y1 y2 y3 y4 y5 y6 y7 y8 y9 y10 y11 y12)(q0:List TV):g123_r [(.vp ((.vs (rows y0))::(.vs (rows y1))::(.int .i64 y2)::(.bool y3)::(.int .i64 y4)::(.int .i64 y5)::(.int .i64 y6)::(.int .i64 y7)::(.int .i64 y8)::(.int .i64 y9)::(.vs (rows y10))::(.vs (rows y11))::q0)),(.int .i64 y12)] = (spec_l12Get (((y0,y1,y2,y3),(y4,y5,y6,y7),y8,y9,y10,y11)) y12).map g123_O :=
  RlO_app (enc:=g123_E) (by intro a b h; simp [g123_E,Prod.ext_iff] at h ⊢; simp [h]) (((y0,y1,y2,y3),(y4,y5,y6,y7),y8,y9,y10,y11),y12,q0)
/-! spec.l13Area -/
def g101_tf:TFn:=⟨(.seq (.ops [oo 2 (.mv (.c (.str [])))]) (.trim [0] (.seq (.ops [mo 3 0,mo 4 0,nk 5 4,fa 6 4 5,ln 7 4 6,ca 8 106 [.t 7],ca 9 128 [.t 3,.t 8],mo 2 9]) (.keep ⟨[(2,0)],[],0⟩ .ret)))),[.t 2]⟩
abbrev g101_S:=Sys.on [(106,g97_r),(128,g123_r)] []
def spec_l13Area (a_p:K1):Option (Str):=(spec_l10Area a_p.2.1).bind fun r1=>(spec_l12Get a_p r1).bind fun r2=>some r2
@[simp] def g101_O:Str → TV × List Blk:=fun r=>((.str r),[])
def g101_E (a:K1 × List TV):List TV:=[(.vp ((.vs (rows a.1.1.1))::(.vs (rows a.1.1.2.1))::(.int .i64 a.1.1.2.2.1)::(.bool a.1.1.2.2.2)::(.int .i64 a.1.2.1.1)::(.int .i64 a.1.2.1.2.1)::(.int .i64 a.1.2.1.2.2.1)::(.int .i64 a.1.2.1.2.2.2)::(.int .i64 a.1.2.2.1)::(.int .i64 a.1.2.2.2.1)::(.vs (rows a.1.2.2.2.2.1))::(.vs (rows a.1.2.2.2.2.2))::a.2))]
theorem g101_run (a_p:K1) (q0:List TV):callFn (X g101_S) g101_tf (g101_E (a_p,q0)) [] = (spec_l13Area a_p).map g101_O:=by
  rw [callFn_eq]
  simp (maxSteps:=2000000) (maxDischargeDepth:=8) -implicitDefEqProofs [g101_tf,spec_l13Area,g101_E] <;> (try simp only [map_to_bind,g101_O])
def g101_r:Rule:=RlO g101_E (fun a=>spec_l13Area a.1) g101_O
theorem g101_ok:RuleOk Tryz.prog 83 g101_r:=ok_rlo (S:=g101_S) (tf:=g101_tf) (SysOk.on ⟨g97_ok,g123_ok,trivial⟩ trivial) (trE_ok (ks:=[]) Tryz.func83 (by kernel_rfl)) fun a=>g101_run a.1 a.2
@[simp] theorem g101_app (y0 y1 y2 y3 y4 y5 y6 y7 y8 y9 y10 y11)(q0:List TV):g101_r [(.vp ((.vs (rows y0))::(.vs (rows y1))::(.int .i64 y2)::(.bool y3)::(.int .i64 y4)::(.int .i64 y5)::(.int .i64 y6)::(.int .i64 y7)::(.int .i64 y8)::(.int .i64 y9)::(.vs (rows y10))::(.vs (rows y11))::q0))] = (spec_l13Area (((y0,y1,y2,y3),(y4,y5,y6,y7),y8,y9,y10,y11))).map g101_O :=
  RlO_app (enc:=g101_E) (by intro a b h; simp [g101_E,Prod.ext_iff] at h ⊢; simp [h]) (((y0,y1,y2,y3),(y4,y5,y6,y7),y8,y9,y10,y11),q0)
/-! spec.l01Within -/
def g68_tf:TFn:=⟨(.seq (.ops [oo 6 (.mv (kb false))]) (.trim [0,1,2] (.seq (.after (.ops [mo 7 2,ca 8 72 [.t 7,ki 1,ki 8],mo 9 8,⟨(some 10),(some (9,true)),(.mv (.t 1))⟩,⟨(some 11),(some (9,true)),(.mv (.t 0))⟩,⟨(some 12),(some (9,true)),(.len true (.t 11))⟩,⟨(some 13),(some (9,true)),(.call 72 [.t 10,ki 0,.t 12])⟩,pk 14 (.t 9) (.t 13) (kb false),mo 15 14,⟨(some 16),(some (15,true)),(.mv (.t 2))⟩,⟨(some 17),(some (15,true)),(.mv (.t 0))⟩,⟨(some 18),(some (15,true)),(.len true (.t 17))⟩,⟨(some 19),(some (15,true)),(.mv (.t 1))⟩,⟨(some 20),(some (15,true)),(.bin .num .sub (.t 18) (.t 19))⟩,⟨(some 21),(some (15,true)),(.bin .num .leq (.t 16) (.t 20))⟩,pk 22 (.t 15) (.t 21) (kb false),mo 6 22]) ⟨[(6,0)],[],0⟩) (.keep ⟨[(6,0)],[],0⟩ .ret)))),[.t 6]⟩
abbrev g68_S:=Sys.on [(72,g136_r)] []
def spec_l01Within (a_s:Str) (a_at:Int) (a_size:Int):Option (Bool):=(spec_l00In a_size 1 8).bind fun r1=>if r1 = true then (spec_l00In a_at 0 ((a_s.length:Int))).bind fun r2=>if r2 = true then some ((decide (a_size ≤ (IntKind.i64.wrap ((a_s.length:Int) - a_at))))) else some false else some false
@[simp] def g68_O:Bool → TV × List Blk:=fun r=>((.bool r),[])
def g68_E (a:Str × Int × Int):List TV:=[(.str a.1),(.int .i64 a.2.1),(.int .i64 a.2.2)]
theorem g68_run (a_s:Str) (a_at:Int) (a_size:Int) :callFn (X g68_S) g68_tf (g68_E (a_s,a_at,a_size)) [] = (spec_l01Within a_s a_at a_size).map g68_O:=by
  rw [callFn_eq]
  simp (maxSteps:=2000000) (maxDischargeDepth:=8) -implicitDefEqProofs [g68_tf,spec_l01Within,g68_E] <;> (try simp only [map_to_bind,g68_O])
def g68_r:Rule:=RlO g68_E (fun a=>spec_l01Within a.1 a.2.1 a.2.2) g68_O
theorem g68_ok:RuleOk Tryz.prog 161 g68_r:=ok_rlo (S:=g68_S) (tf:=g68_tf) (SysOk.on ⟨g136_ok,trivial⟩ trivial) (trE_ok (ks:=[]) Tryz.func161 (by kernel_rfl)) fun a=>g68_run a.1 a.2.1 a.2.2
@[simp] theorem g68_app (y0 y1 y2):g68_r [(.str y0),(.int .i64 y1),(.int .i64 y2)] = (spec_l01Within y0 y1 y2).map g68_O :=
  RlO_app (enc:=g68_E) (by intro a b h; simp [g68_E,Prod.ext_iff] at h ⊢; simp [h]) (y0,y1,y2)
/-! spec.l01GetUint -/
def g52l2_cb:TC:=(.seq (.seq (.ops [mo 28 9,bn 29 .geq (.t 28) (ki 0)]) (.trim [0,1,8,9,29] (.cond (.t 29) .skip (.keep ⟨[(8,0)],[],0⟩ (.exit 0))))) (.trim [0,1,8,9] (.seq (.block 1 (.ops [mo 32 8,bn 33 .mul (.t 32) (ki 256),mo 34 0,mo 35 1,mo 36 9,bn 37 .add (.t 35) (.t 36),oo 38 (.index (.t 34) (.t 37)),oo 39 (.conv (.toInt .i64) (.t 38)),bn 40 .add (.t 33) (.t 39),mo 8 40])) (.trim [0,1,8,9] (.after (.ops [mo 30 9,bn 31 .sub (.t 30) (ki 1),mo 9 31]) ⟨[(0,0),(1,0),(8,0),(9,0)],[],0⟩)))))
def g52l2_c:TC:=.loop [0,1,8,9] g52l2_cb
def g52p1_c:TC:=(.seq (.ops [oo 8 (.mv (ki 0))]) (.trim [0,1,2,8] (.seq (.seq (.ops [mo 26 2,bn 27 .sub (.t 26) (ki 1),mo 9 27]) (.trim [0,1,8,9] (.block 0 (.keep ⟨[(0,0),(1,0),(8,0),(9,0)],[],0⟩ g52l2_c)))) (.trim [8] (.seq (.ops [mo 41 8,mo 6 41,oo 7 (.mv (kb true))]) (.keep ⟨[(6,0),(7,0)],[],0⟩ .ret))))))
def g52_tf:TFn:=⟨(.seq (.ops [oo 6 (.mv (ki 0)),oo 7 (.mv (kb false))]) (.trim [0,1,2] (.seq (.seq (.ops [mo 10 0,mo 11 1,mo 12 2,ca 13 161 [.t 10,.t 11,.t 12],nt 14 13,mo 15 14,⟨(some 16),(some (15,false)),(.mv (.t 2))⟩,⟨(some 17),(some (15,false)),(.bin .num .eql (.t 16) (ki 8))⟩,⟨(some 18),(some (15,false)),(.mv (.t 17))⟩,⟨(some 19),(some (18,true)),(.mv (.t 0))⟩,⟨(some 20),(some (18,true)),(.mv (.t 1))⟩,⟨(some 21),(some (18,true)),(.bin .num .add (.t 20) (ki 7))⟩,⟨(some 22),(some (18,true)),(.index (.t 19) (.t 21))⟩,⟨(some 23),(some (18,true)),(.bin .num .gtr (.t 22) (.c (.int .u8 127)))⟩,⟨(some 24),(some (15,false)),(.pick (.t 18) (.t 23) (kb false))⟩,pk 25 (.t 15) (kb true) (.t 24)]) (.trim [0,1,2,25] (.cond (.t 25) (.seq (.ops [oo 6 (.mv (ki 0)),oo 7 (.mv (kb false))]) (.keep ⟨[(6,0),(7,0)],[],0⟩ .ret)) (.keep ⟨[(0,0),(1,0),(2,0)],[],0⟩ .skip)))) (.trim [0,1,2] g52p1_c)))),[.t 6,.t 7]⟩
abbrev g52_S:=Sys.on [(161,g68_r)] []
@[reducible,simp] def g52l2_F:Int → Out:=(fun t=>(.ext 0,[(8,(.int .i64 t))],[]))
def spec_l01GetUint_l2_b (v6:Str) (v7:Int) (v8:Int) (v9:Int):Option ((Int × Int) ⊕ (Int)):=if v9 ≥ 0 then if 0 ≤ (IntKind.i64.wrap (v7 + v9)) then (v6[((IntKind.i64.wrap (v7 + v9))).toNat]?).bind fun (b10:UInt8)=>some (.inl ((IntKind.i64.wrap ((IntKind.i64.wrap (v8 * 256)) + (IntKind.i64.wrap ((b10.toNat:Int))))),(IntKind.i64.wrap (v9 - 1)))) else none else some (.inr v8)
theorem g52l2_b_eq  (v6:Str) (v7:Int) (v8:Int) (v9:Int):X g52_S g52l2_cb (keepEnv [0,1,8,9] [(0,(.str v6)),(1,(.int .i64 v7)),(8,(.int .i64 v8)),(9,(.int .i64 v9))]) [] = (spec_l01GetUint_l2_b v6 v7 v8 v9).map (Sum.elim (fun s=>(TX.nrm,[(0,(.str v6)),(1,(.int .i64 v7)),(8,(.int .i64 s.1)),(9,(.int .i64 s.2))],[])) g52l2_F):=by
  simp (maxSteps:=2000000) (maxDischargeDepth:=8) -implicitDefEqProofs [g52l2_cb,spec_l01GetUint_l2_b] <;> (try simp only [map_to_bind,g52l2_F])
def spec_l01GetUint_l2 (v6:Str) (v7:Int) (s:Int × Int):Option (Int):=loopO (fun s=>spec_l01GetUint_l2_b v6 v7 s.1 s.2) s
@[simp] theorem g52l2_eq (y0 y1 y2 y3):X g52_S g52l2_c [(0,(.str y0)),(1,(.int .i64 y1)),(8,(.int .i64 y2)),(9,(.int .i64 y3))] [] = (spec_l01GetUint_l2 y0 y1 (y2,y3)).map g52l2_F:=by
  exact loop_X _ _ _ _ (by intro r; first | (simp; done) | (rcases r with r | r <;> simp; done) | (rcases r with r | r | r <;> simp; done) | (rcases r with r | r | r | r <;> simp)) (fun s=>g52l2_b_eq  y0 y1 s.1 s.2) (y2,y3)
@[reducible,simp] def g52p1_F:(Int × Bool) → Out:=(fun t=>(.ret,[(6,(.int .i64 t.1)),(7,(.bool t.2))],[]))
def spec_l01GetUint_p1 (v3:Str) (v4:Int) (v5:Int):Option (Int × Bool):=(spec_l01GetUint_l2 v3 v4 ((0,(IntKind.i64.wrap (v5 - 1))))).bind fun r11=>some ((r11,true))
@[simp] theorem g52p1_eq (y0 y1 y2):X g52_S g52p1_c [(0,(.str y0)),(1,(.int .i64 y1)),(2,(.int .i64 y2))] [] = (spec_l01GetUint_p1 y0 y1 y2).map g52p1_F:=by
  simp (maxSteps:=2000000) (maxDischargeDepth:=8) -implicitDefEqProofs [g52p1_c,spec_l01GetUint_p1] <;> (try simp only [map_to_bind,g52p1_F])
def spec_l01GetUint (a_s:Str) (a_at:Int) (a_size:Int):Option (Int × Bool):=(spec_l01Within a_s a_at a_size).bind fun r1=>if ¬(r1 = true) then some (0,false) else if a_size = 8 then if 0 ≤ (IntKind.i64.wrap (a_at + 7)) then (a_s[((IntKind.i64.wrap (a_at + 7))).toNat]?).bind fun (b2:UInt8)=>if (b2.toNat:Int) > 127 then some (0,false) else (spec_l01GetUint_p1 a_s a_at a_size).bind fun r12=>some (r12.1,r12.2) else none else (spec_l01GetUint_p1 a_s a_at a_size).bind fun r13=>some (r13.1,r13.2)
@[simp] def g52_O:(Int × Bool) → TV × List Blk:=fun r=>((.tup [(.int .i64 r.1),(.bool r.2)]),[])
def g52_E (a:Str × Int × Int):List TV:=[(.str a.1),(.int .i64 a.2.1),(.int .i64 a.2.2)]
theorem g52_run (a_s:Str) (a_at:Int) (a_size:Int) :callFn (X g52_S) g52_tf (g52_E (a_s,a_at,a_size)) [] = (spec_l01GetUint a_s a_at a_size).map g52_O:=by
  rw [callFn_eq]
  simp (maxSteps:=2000000) (maxDischargeDepth:=8) -implicitDefEqProofs [g52_tf,spec_l01GetUint,g52_E] <;> (try simp only [map_to_bind,g52_O])
def g52_r:Rule:=RlO g52_E (fun a=>spec_l01GetUint a.1 a.2.1 a.2.2) g52_O
theorem g52_ok:RuleOk Tryz.prog 124 g52_r:=ok_rlo (S:=g52_S) (tf:=g52_tf) (SysOk.on ⟨g68_ok,trivial⟩ trivial) (trE_ok (ks:=[[0,1,8,9]]) Tryz.func124 (by kernel_rfl)) fun a=>g52_run a.1 a.2.1 a.2.2
@[simp] theorem g52_app (y0 y1 y2):g52_r [(.str y0),(.int .i64 y1),(.int .i64 y2)] = (spec_l01GetUint y0 y1 y2).map g52_O :=
  RlO_app (enc:=g52_E) (by intro a b h; simp [g52_E,Prod.ext_iff] at h ⊢; simp [h]) (y0,y1,y2)
/-! spec.l13Root -/
def g102_tf:TFn:=⟨(.seq (.ops [oo 2 (.mv (ki 0))]) (.trim [0] (.seq (.ops [mo 6 0,ca 7 83 [.t 6],ca 8 124 [.t 7,ki 0,ki 2],mo 5 8,oo 9 (.ext (.t 5) 0),oo 10 (.ext (.t 5) 1),mo 3 9,mo 4 10]) (.trim [3] (.seq (.ops [mo 11 3,mo 2 11]) (.keep ⟨[(2,0)],[],0⟩ .ret)))))),[.t 2]⟩
abbrev g102_S:=Sys.on [(83,g101_r),(124,g52_r)] []
def spec_l13Root (a_p:K1):Option (Int):=(spec_l13Area a_p).bind fun r1=>(spec_l01GetUint r1 0 2).bind fun r2=>some r2.1
@[simp] def g102_O:Int → TV × List Blk:=fun r=>((.int .i64 r),[])
def g102_E (a:K1 × List TV):List TV:=[(.vp ((.vs (rows a.1.1.1))::(.vs (rows a.1.1.2.1))::(.int .i64 a.1.1.2.2.1)::(.bool a.1.1.2.2.2)::(.int .i64 a.1.2.1.1)::(.int .i64 a.1.2.1.2.1)::(.int .i64 a.1.2.1.2.2.1)::(.int .i64 a.1.2.1.2.2.2)::(.int .i64 a.1.2.2.1)::(.int .i64 a.1.2.2.2.1)::(.vs (rows a.1.2.2.2.2.1))::(.vs (rows a.1.2.2.2.2.2))::a.2))]
theorem g102_run (a_p:K1) (q0:List TV):callFn (X g102_S) g102_tf (g102_E (a_p,q0)) [] = (spec_l13Root a_p).map g102_O:=by
  rw [callFn_eq]
  simp (maxSteps:=2000000) (maxDischargeDepth:=8) -implicitDefEqProofs [g102_tf,spec_l13Root,g102_E] <;> (try simp only [map_to_bind,g102_O])
def g102_r:Rule:=RlO g102_E (fun a=>spec_l13Root a.1) g102_O
theorem g102_ok:RuleOk Tryz.prog 78 g102_r:=ok_rlo (S:=g102_S) (tf:=g102_tf) (SysOk.on ⟨g101_ok,g52_ok,trivial⟩ trivial) (trE_ok (ks:=[]) Tryz.func78 (by kernel_rfl)) fun a=>g102_run a.1 a.2
@[simp] theorem g102_app (y0 y1 y2 y3 y4 y5 y6 y7 y8 y9 y10 y11)(q0:List TV):g102_r [(.vp ((.vs (rows y0))::(.vs (rows y1))::(.int .i64 y2)::(.bool y3)::(.int .i64 y4)::(.int .i64 y5)::(.int .i64 y6)::(.int .i64 y7)::(.int .i64 y8)::(.int .i64 y9)::(.vs (rows y10))::(.vs (rows y11))::q0))] = (spec_l13Root (((y0,y1,y2,y3),(y4,y5,y6,y7),y8,y9,y10,y11))).map g102_O :=
  RlO_app (enc:=g102_E) (by intro a b h; simp [g102_E,Prod.ext_iff] at h ⊢; simp [h]) (((y0,y1,y2,y3),(y4,y5,y6,y7),y8,y9,y10,y11),q0)
/-! spec.l17Empty -/
def g83_tf:TFn:=⟨(.seq (.ops [oo 0 (.alloc [(.int .i64 0),(.int .i64 0),.nils])]) (.trim [0] (.seq (.ops [oo 1 (.build [(.int .i64 0),(.int .i64 0),(.str [])] [(0,1,(ki 9)),(2,1,(.c (.str [0])))]),oo 2 (.build [(.int .i64 0),(.int .i64 0),(.str [])] [(0,1,(ki 7))]),oo 3 (.bslice [(.int .i64 0),(.int .i64 0),(.str [])] 2 [(0,(.t 1)),(1,(.t 2))]),oo 4 (.build [(.int .i64 0),(.int .i64 0),.nils] [(0,1,(ki 1)),(1,1,(ki 1)),(2,1,(.t 3))]),⟨none,none,(.store 3 (.t 0) (.t 4))⟩]) (.keep ⟨[(0,0)],[(0,2),(1,1)],0⟩ .ret)))),[.cell 0 (some 3)]⟩
abbrev g83_S:=Sys.on [] []
def spec_l17Empty :Option (K2):=some ((1,1,(lit [(9,0,([0]:Str)),(7,0,([]:Str))]:List (Int × Int × Str))))
@[simp] def g83_O:(K2) → TV × List Blk:=fun r=>((.agg [(.int .i64 r.1),(.int .i64 r.2.1),(ow 1 r.2.2.length)]),[(.live 3 [[(.int .i64 r.1),(.int .i64 r.2.1),(ow 1 r.2.2.length)]]),(ob 3 r.2.2)])
def g83_E (a:Unit):List TV:=[]
theorem g83_run  :callFn (X g83_S) g83_tf (g83_E ()) [] = (spec_l17Empty ).map g83_O:=by
  rw [callFn_eq]
  simp (maxSteps:=2000000) (maxDischargeDepth:=8) -implicitDefEqProofs [g83_tf,spec_l17Empty,g83_E,bslV_lit (α:=Int × Int × Str) (zs:=[(.int .i64 0),(.int .i64 0),(.str [])])] <;> (try simp only [map_to_bind,g83_O])
def g83_r:Rule:=RlO g83_E (fun a=>spec_l17Empty ) g83_O
theorem g83_ok:RuleOk Tryz.prog 80 g83_r:=ok_rlo (S:=g83_S) (tf:=g83_tf) (SysOk.on trivial trivial) (trE_ok (ks:=[]) Tryz.func80 (by kernel_rfl)) fun a=>g83_run 
@[simp] theorem g83_app :g83_r [] = (spec_l17Empty ).map g83_O :=
  RlO_app (enc:=g83_E) (by intro a b h; rfl) ()
/-! spec.l02Byte -/
def g103_tf:TFn:=⟨(.seq (.ops [oo 2 (.mv (.c (.str [])))]) (.trim [0] (.seq (.ops [mo 3 0,oo 4 (.conv (.toInt .u8) (.t 3)),oo 5 (.bslice [(.int .u8 0)] 1 [(0,(.t 4))]),oo 6 (.conv .toStr (.t 5)),mo 2 6]) (.keep ⟨[(2,0)],[],0⟩ .ret)))),[.t 2]⟩
abbrev g103_S:=Sys.on [] []
def spec_l02Byte (a_n:Int):Option (Str):=some ((((lit [(⟨UInt8.ofNat ((IntKind.u8.wrap a_n)).toNat⟩:Bt)]:List Bt)).map Bt.v))
@[simp] def g103_O:Str → TV × List Blk:=fun r=>((.str r),[])
def g103_E (a:Int):List TV:=[(.int .i64 a)]
theorem g103_run (a_n:Int) :callFn (X g103_S) g103_tf (g103_E a_n) [] = (spec_l02Byte a_n).map g103_O:=by
  rw [callFn_eq]
  simp (maxSteps:=2000000) (maxDischargeDepth:=8) -implicitDefEqProofs [g103_tf,spec_l02Byte,g103_E,bslV_lit (α:=Bt) (zs:=[(.int .u8 0)])] <;> (try simp only [map_to_bind,g103_O])
def g103_r:Rule:=RlO g103_E (fun a=>spec_l02Byte a) g103_O
theorem g103_ok:RuleOk Tryz.prog 197 g103_r:=ok_rlo (S:=g103_S) (tf:=g103_tf) (SysOk.on trivial trivial) (trE_ok (ks:=[]) Tryz.func197 (by kernel_rfl)) fun a=>g103_run a
@[simp] theorem g103_app (y0):g103_r [(.int .i64 y0)] = (spec_l02Byte y0).map g103_O :=
  RlO_app (enc:=g103_E) (by intro a b h; simp [g103_E,Prod.ext_iff] at h ⊢; simp [h]) y0
/-! spec.l02Put -/
def g124l1_cb:TC:=(.seq (.seq (.ops [mo 10 8,mo 11 1,bn 12 .lss (.t 10) (.t 11)]) (.trim [0,1,2,7,8,12] (.cond (.t 12) .skip (.keep ⟨[(7,0)],[],0⟩ (.exit 0))))) (.trim [0,1,2,7,8] (.seq (.block 1 (.seq (.ops [mo 15 0,mo 16 8,bn 17 .mul (ki 8) (.t 16),oo 18 (.conv (.toInt .u64) (.t 17)),bn 19 .shr (.t 15) (.t 18),bn 20 .and (.t 19) (ki 255),ca 21 197 [.t 20],mo 9 21]) (.trim [0,1,2,7,8,9] (.seq (.ops [mo 22 2]) (.trim [0,1,2,7,8,9,22] (.cond (.t 22) (.after (.ops [mo 23 9,mo 24 7,oo 25 (.bin .str .add (.t 23) (.t 24)),mo 7 25]) ⟨[(0,0),(1,0),(2,0),(7,0),(8,0)],[],0⟩) (.after (.ops [mo 26 7,mo 27 9,oo 28 (.bin .str .add (.t 26) (.t 27)),mo 7 28]) ⟨[(0,0),(1,0),(2,0),(7,0),(8,0)],[],0⟩))))))) (.trim [0,1,2,7,8] (.after (.ops [mo 13 8,bn 14 .add (.t 13) (ki 1),mo 8 14]) ⟨[(0,0),(1,0),(2,0),(7,0),(8,0)],[],0⟩)))))
def g124l1_c:TC:=.loop [0,1,2,7,8] g124l1_cb
def g124_tf:TFn:=⟨(.seq (.ops [oo 6 (.mv (.c (.str [])))]) (.trim [0,1,2] (.seq (.ops [oo 7 (.mv (.c (.str [])))]) (.trim [0,1,2,7] (.seq (.seq (.ops [oo 8 (.mv (ki 0))]) (.trim [0,1,2,7,8] (.block 0 (.keep ⟨[(0,0),(1,0),(2,0),(7,0),(8,0)],[],0⟩ g124l1_c)))) (.trim [7] (.seq (.ops [mo 29 7,mo 6 29]) (.keep ⟨[(6,0)],[],0⟩ .ret)))))))),[.t 6]⟩
abbrev g124_S:=Sys.on [(197,g103_r)] []
@[reducible,simp] def g124l1_F:Str → Out:=(fun t=>(.ext 0,[(7,(.str t))],[]))
def spec_l02Put_l1_b (v1:Int) (v2:Int) (v3:Bool) (v4:Str) (v5:Int):Option ((Str × Int) ⊕ (Str)):=if v5 < v2 then if (IntKind.u64.wrap ((IntKind.i64.wrap (8 * v5)))) < 0 then none else (spec_l02Byte ((bitV .and .i64 ((shrV .i64 v1 ((IntKind.u64.wrap ((IntKind.i64.wrap (8 * v5))))))) 255))).bind fun r6=>if v3 = true then if r6.length + v4.length ≤ 9223372036854775807 then some (.inl ((r6 ++ v4),(IntKind.i64.wrap (v5 + 1)))) else none else if v4.length + r6.length ≤ 9223372036854775807 then some (.inl ((v4 ++ r6),(IntKind.i64.wrap (v5 + 1)))) else none else some (.inr v4)
theorem g124l1_b_eq  (v1:Int) (v2:Int) (v3:Bool) (v4:Str) (v5:Int):X g124_S g124l1_cb (keepEnv [0,1,2,7,8] [(0,(.int .i64 v1)),(1,(.int .i64 v2)),(2,(.bool v3)),(7,(.str v4)),(8,(.int .i64 v5))]) [] = (spec_l02Put_l1_b v1 v2 v3 v4 v5).map (Sum.elim (fun s=>(TX.nrm,[(0,(.int .i64 v1)),(1,(.int .i64 v2)),(2,(.bool v3)),(7,(.str s.1)),(8,(.int .i64 s.2))],[])) g124l1_F):=by
  simp (maxSteps:=2000000) (maxDischargeDepth:=8) -implicitDefEqProofs [g124l1_cb,spec_l02Put_l1_b] <;> (try simp only [map_to_bind,g124l1_F])
def spec_l02Put_l1 (v1:Int) (v2:Int) (v3:Bool) (s:Str × Int):Option (Str):=loopO (fun s=>spec_l02Put_l1_b v1 v2 v3 s.1 s.2) s
@[simp] theorem g124l1_eq (y0 y1 y2 y3 y4):X g124_S g124l1_c [(0,(.int .i64 y0)),(1,(.int .i64 y1)),(2,(.bool y2)),(7,(.str y3)),(8,(.int .i64 y4))] [] = (spec_l02Put_l1 y0 y1 y2 (y3,y4)).map g124l1_F:=by
  exact loop_X _ _ _ _ (by intro r; first | (simp; done) | (rcases r with r | r <;> simp; done) | (rcases r with r | r | r <;> simp; done) | (rcases r with r | r | r | r <;> simp)) (fun s=>g124l1_b_eq  y0 y1 y2 s.1 s.2) (y3,y4)
def spec_l02Put (a_n:Int) (a_size:Int) (a_big:Bool):Option (Str):=(spec_l02Put_l1 a_n a_size a_big ((([]:Str),0))).bind fun r7=>some r7
@[simp] def g124_O:Str → TV × List Blk:=fun r=>((.str r),[])
def g124_E (a:Int × Int × Bool):List TV:=[(.int .i64 a.1),(.int .i64 a.2.1),(.bool a.2.2)]
theorem g124_run (a_n:Int) (a_size:Int) (a_big:Bool) :callFn (X g124_S) g124_tf (g124_E (a_n,a_size,a_big)) [] = (spec_l02Put a_n a_size a_big).map g124_O:=by
  rw [callFn_eq]
  simp (maxSteps:=2000000) (maxDischargeDepth:=8) -implicitDefEqProofs [g124_tf,spec_l02Put,g124_E] <;> (try simp only [map_to_bind,g124_O])
def g124_r:Rule:=RlO g124_E (fun a=>spec_l02Put a.1 a.2.1 a.2.2) g124_O
theorem g124_ok:RuleOk Tryz.prog 164 g124_r:=ok_rlo (S:=g124_S) (tf:=g124_tf) (SysOk.on ⟨g103_ok,trivial⟩ trivial) (trE_ok (ks:=[[0,1,2,7,8]]) Tryz.func164 (by kernel_rfl)) fun a=>g124_run a.1 a.2.1 a.2.2
@[simp] theorem g124_app (y0 y1 y2):g124_r [(.int .i64 y0),(.int .i64 y1),(.bool y2)] = (spec_l02Put y0 y1 y2).map g124_O :=
  RlO_app (enc:=g124_E) (by intro a b h; simp [g124_E,Prod.ext_iff] at h ⊢; simp [h]) (y0,y1,y2)
/-! spec.l14Encode -/
def g69l1_cb:TC:=(.seq (.seq (.ops [mo 18 4,fa 19 2 1,ld 20 19,le 21 20,bn 22 .lss (.t 18) (.t 21)]) (.trim [1,3,4,22] (.cond (.t 22) .skip (.keep ⟨[(3,0)],[],0⟩ (.exit 0))))) (.trim [1,3,4] (.seq (.block 1 (.seq (.ops [fa 25 2 1,ld 26 25,mo 27 4,ia 28 3 26 27,ln 29 3 28,oo 5 (.alloc [(.int .i64 0),(.int .i64 0),(.str [])]),⟨none,none,(.store 3 (.t 5) (.t 29))⟩]) (.trim [1,3,4,5] (.draw [([],mo 30 3),([],fa 31 0 5),([1],ld 32 31),([1,2],ca 33 197 [.t 32]),([],fa 34 1 5),([4],ld 35 34),([1,2,3,4,5],ca 36 197 [.t 35]),([1,2,3,4,5,6],oo 37 (.bin .str .add (.t 33) (.t 36))),([],fa 38 2 5),([8],ld 39 38),([8,9],oo 40 (.len true (.t 39))),([1,2,3,4,5,6,8,9,10],ca 41 197 [.t 40]),([1,2,3,4,5,6,7,8,9,10,11],oo 42 (.bin .str .add (.t 37) (.t 41))),([],fa 43 2 5),([13],ld 44 43),([1,2,3,4,5,6,7,8,9,10,11,12,13,14],oo 45 (.bin .str .add (.t 42) (.t 44)))] [oo 46 (.bin .str .add (.t 30) (.t 45)),mo 3 46])))) (.trim [1,3,4] (.after (.ops [mo 23 4,bn 24 .add (.t 23) (ki 1),mo 4 24]) ⟨[(1,0),(3,0),(4,0)],[(0,0)],0⟩)))))
def g69l1_c:TC:=.loop [1,3,4] g69l1_cb
def g69_tf:TFn:=⟨(.seq (.ops [bx 1 0,oo 2 (.mv (.c (.str [])))]) (.trim [1] (.seq (.draw [([],fa 6 0 1),([0],ld 7 6),([0,1],ca 8 197 [.t 7]),([],fa 9 1 1),([3],ld 10 9),([0,1,2,3,4],ca 11 164 [.t 10,ki 2,kb false]),([0,1,2,3,4,5],oo 12 (.bin .str .add (.t 8) (.t 11))),([],fa 13 2 1),([7],ld 14 13),([7,8],le 15 14),([0,1,2,3,4,5,7,8,9],ca 16 197 [.t 15])] [oo 17 (.bin .str .add (.t 12) (.t 16)),mo 3 17]) (.trim [1,3] (.seq (.seq (.ops [oo 4 (.mv (ki 0))]) (.trim [1,3,4] (.block 0 (.keep ⟨[(1,0),(3,0),(4,0)],[(0,0)],0⟩ g69l1_c)))) (.trim [3] (.seq (.ops [mo 47 3,mo 2 47]) (.keep ⟨[(2,0)],[],0⟩ .ret)))))))),[.t 2]⟩
abbrev g69_S:=Sys.on [(197,g103_r),(164,g124_r)] []
@[reducible,simp] def g69l1_F:Str → Out:=(fun t=>(.ext 0,[(3,(.str t))],[]))
def spec_l14Encode_l1_b (v4:K2) (v5:Str) (v6:Int):Option ((Str × Int) ⊕ (Str)):=if v6 < (v4.2.2.length:Int) then if 0 ≤ v6 then (v4.2.2[(v6).toNat]?).bind fun x7=>(spec_l02Byte x7.1).bind fun r8=>(spec_l02Byte x7.2.1).bind fun r9=>if r8.length + r9.length ≤ 9223372036854775807 then (spec_l02Byte ((x7.2.2.length:Int))).bind fun r10=>if ((r8 ++ r9)).length + r10.length ≤ 9223372036854775807 then if (((r8 ++ r9) ++ r10)).length + x7.2.2.length ≤ 9223372036854775807 then if v5.length + ((((r8 ++ r9) ++ r10) ++ x7.2.2)).length ≤ 9223372036854775807 then some (.inl ((v5 ++ (((r8 ++ r9) ++ r10) ++ x7.2.2)),(IntKind.i64.wrap (v6 + 1)))) else none else none else none else none else none else some (.inr v5)
theorem g69l1_b_eq  (v4:K2) (v5:Str) (v6:Int):X g69_S g69l1_cb (keepEnv [1,3,4] [(1,(.ptr 0 0 0)),(3,(.str v5)),(4,(.int .i64 v6))]) [(.live 3 [[(.int .i64 v4.1),(.int .i64 v4.2.1),(.vs (rows v4.2.2))]])] = (spec_l14Encode_l1_b v4 v5 v6).map (Sum.elim (fun s=>(TX.nrm,[(1,(.ptr 0 0 0)),(3,(.str s.1)),(4,(.int .i64 s.2))],[(.live 3 [[(.int .i64 v4.1),(.int .i64 v4.2.1),(.vs (rows v4.2.2))]])])) g69l1_F):=by
  simp (maxSteps:=2000000) (maxDischargeDepth:=8) -implicitDefEqProofs [g69l1_cb,spec_l14Encode_l1_b] <;> (try simp only [map_to_bind,g69l1_F])
def spec_l14Encode_l1 (v4:K2) (s:Str × Int):Option (Str):=loopO (fun s=>spec_l14Encode_l1_b v4 s.1 s.2) s
@[simp] theorem g69l1_eq (y0 y1 y2 y3 y4):X g69_S g69l1_c [(1,(.ptr 0 0 0)),(3,(.str y3)),(4,(.int .i64 y4))] [(.live 3 [[(.int .i64 y0),(.int .i64 y1),(.vs (rows y2))]])] = (spec_l14Encode_l1 ((y0,y1,y2)) (y3,y4)).map g69l1_F:=by
  exact loop_X _ _ _ _ (by intro r; first | (simp; done) | (rcases r with r | r <;> simp; done) | (rcases r with r | r | r <;> simp; done) | (rcases r with r | r | r | r <;> simp)) (fun s=>g69l1_b_eq  ((y0,y1,y2)) s.1 s.2) (y3,y4)
def spec_l14Encode (a_h:K2):Option (Str):=(spec_l02Byte a_h.1).bind fun r1=>(spec_l02Put a_h.2.1 2 false).bind fun r2=>if r1.length + r2.length ≤ 9223372036854775807 then (spec_l02Byte ((a_h.2.2.length:Int))).bind fun r3=>if ((r1 ++ r2)).length + r3.length ≤ 9223372036854775807 then (spec_l14Encode_l1 a_h ((((r1 ++ r2) ++ r3),0))).bind fun r11=>some r11 else none else none
@[simp] def g69_O:Str → TV × List Blk:=fun r=>((.str r),[])
def g69_E (a:K2):List TV:=[(.agg [(.int .i64 a.1),(.int .i64 a.2.1),(.vs (rows a.2.2))])]
theorem g69_run (a_h:K2) :callFn (X g69_S) g69_tf (g69_E a_h) [] = (spec_l14Encode a_h).map g69_O:=by
  rw [callFn_eq]
  simp (maxSteps:=2000000) (maxDischargeDepth:=8) -implicitDefEqProofs [g69_tf,spec_l14Encode,g69_E] <;> (try simp only [map_to_bind,g69_O])
def g69_r:Rule:=RlO g69_E (fun a=>spec_l14Encode a) g69_O
theorem g69_ok:RuleOk Tryz.prog 162 g69_r:=ok_rlo (S:=g69_S) (tf:=g69_tf) (SysOk.on ⟨g103_ok,g124_ok,trivial⟩ trivial) (trE_ok (ks:=[[11],[1,3,4],[16]]) Tryz.func162 (by kernel_rfl)) fun a=>g69_run a
@[simp] theorem g69_app (y0 y1 y2):g69_r [(.agg [(.int .i64 y0),(.int .i64 y1),(.vs (rows y2))])] = (spec_l14Encode ((y0,y1,y2))).map g69_O :=
  RlO_app (enc:=g69_E) (by intro a b h; simp [g69_E,Prod.ext_iff] at h ⊢; simp [h]) ((y0,y1,y2))
/-! spec.l14Need -/
def g104_tf:TFn:=⟨(.seq (.ops [bx 1 0,oo 2 (.mv (ki 0))]) (.trim [1] (.seq (.ops [ln 3 3 1,ca 4 162 [.t 3],oo 5 (.len true (.t 4)),bn 6 .add (.t 5) (ki 60),bn 7 .sub (.t 6) (ki 1),bn 8 .quo (.t 7) (ki 60),mo 2 8]) (.keep ⟨[(2,0)],[],0⟩ .ret)))),[.t 2]⟩
abbrev g104_S:=Sys.on [(162,g69_r)] []
def spec_l14Need (a_h:K2):Option (Int):=(spec_l14Encode a_h).bind fun r1=>some ((IntKind.i64.wrap (Int.tdiv ((IntKind.i64.wrap ((IntKind.i64.wrap ((r1.length:Int) + 60)) - 1))) 60)))
@[simp] def g104_O:Int → TV × List Blk:=fun r=>((.int .i64 r),[])
def g104_E (a:K2):List TV:=[(.agg [(.int .i64 a.1),(.int .i64 a.2.1),(.vs (rows a.2.2))])]
theorem g104_run (a_h:K2) :callFn (X g104_S) g104_tf (g104_E a_h) [] = (spec_l14Need a_h).map g104_O:=by
  rw [callFn_eq]
  simp (maxSteps:=2000000) (maxDischargeDepth:=8) -implicitDefEqProofs [g104_tf,spec_l14Need,g104_E] <;> (try simp only [map_to_bind,g104_O])
def g104_r:Rule:=RlO g104_E (fun a=>spec_l14Need a) g104_O
theorem g104_ok:RuleOk Tryz.prog 126 g104_r:=ok_rlo (S:=g104_S) (tf:=g104_tf) (SysOk.on ⟨g69_ok,trivial⟩ trivial) (trE_ok (ks:=[]) Tryz.func126 (by kernel_rfl)) fun a=>g104_run a
@[simp] theorem g104_app (y0 y1 y2):g104_r [(.agg [(.int .i64 y0),(.int .i64 y1),(.vs (rows y2))])] = (spec_l14Need ((y0,y1,y2))).map g104_O :=
  RlO_app (enc:=g104_E) (by intro a b h; simp [g104_E,Prod.ext_iff] at h ⊢; simp [h]) ((y0,y1,y2))
/-! spec.l13First -/
def g84_tf:TFn:=⟨(.seq (.ops [oo 2 (.mv (ki 0))]) (.trim [0] (.seq (.ops [mo 3 0,nk 4 3,fa 5 4 4,ln 6 4 5,ca 7 106 [.t 6],bn 8 .add (.t 7) (ki 1),mo 2 8]) (.keep ⟨[(2,0)],[],0⟩ .ret)))),[.t 2]⟩
abbrev g84_S:=Sys.on [(106,g97_r)] []
def spec_l13First (a_p:K1):Option (Int):=(spec_l10Area a_p.2.1).bind fun r1=>some ((IntKind.i64.wrap (r1 + 1)))
@[simp] def g84_O:Int → TV × List Blk:=fun r=>((.int .i64 r),[])
def g84_E (a:K1 × List TV):List TV:=[(.vp ((.vs (rows a.1.1.1))::(.vs (rows a.1.1.2.1))::(.int .i64 a.1.1.2.2.1)::(.bool a.1.1.2.2.2)::(.int .i64 a.1.2.1.1)::(.int .i64 a.1.2.1.2.1)::(.int .i64 a.1.2.1.2.2.1)::(.int .i64 a.1.2.1.2.2.2)::(.int .i64 a.1.2.2.1)::(.int .i64 a.1.2.2.2.1)::(.vs (rows a.1.2.2.2.2.1))::(.vs (rows a.1.2.2.2.2.2))::a.2))]
theorem g84_run (a_p:K1) (q0:List TV):callFn (X g84_S) g84_tf (g84_E (a_p,q0)) [] = (spec_l13First a_p).map g84_O:=by
  rw [callFn_eq]
  simp (maxSteps:=2000000) (maxDischargeDepth:=8) -implicitDefEqProofs [g84_tf,spec_l13First,g84_E] <;> (try simp only [map_to_bind,g84_O])
def g84_r:Rule:=RlO g84_E (fun a=>spec_l13First a.1) g84_O
theorem g84_ok:RuleOk Tryz.prog 107 g84_r:=ok_rlo (S:=g84_S) (tf:=g84_tf) (SysOk.on ⟨g97_ok,trivial⟩ trivial) (trE_ok (ks:=[]) Tryz.func107 (by kernel_rfl)) fun a=>g84_run a.1 a.2
@[simp] theorem g84_app (y0 y1 y2 y3 y4 y5 y6 y7 y8 y9 y10 y11)(q0:List TV):g84_r [(.vp ((.vs (rows y0))::(.vs (rows y1))::(.int .i64 y2)::(.bool y3)::(.int .i64 y4)::(.int .i64 y5)::(.int .i64 y6)::(.int .i64 y7)::(.int .i64 y8)::(.int .i64 y9)::(.vs (rows y10))::(.vs (rows y11))::q0))] = (spec_l13First (((y0,y1,y2,y3),(y4,y5,y6,y7),y8,y9,y10,y11))).map g84_O :=
  RlO_app (enc:=g84_E) (by intro a b h; simp [g84_E,Prod.ext_iff] at h ⊢; simp [h]) (((y0,y1,y2,y3),(y4,y5,y6,y7),y8,y9,y10,y11),q0)
/-! spec.l13Bit -/
def g125_tf:TFn:=⟨(.seq (.ops [oo 4 (.mv (kb false))]) (.trim [0,1] (.seq (.ops [mo 5 0,mo 6 1,bn 7 .quo (.t 6) (ki 8),bn 8 .add (ki 4) (.t 7),oo 9 (.index (.t 5) (.t 8)),mo 10 1,bn 11 .rem (.t 10) (ki 8),oo 12 (.conv (.toInt .u64) (.t 11)),bn 13 .shr (.t 9) (.t 12),oo 14 (.bin .num .and (.t 13) (.c (.int .u8 1))),oo 15 (.bin .num .eql (.t 14) (.c (.int .u8 1))),mo 4 15]) (.keep ⟨[(4,0)],[],0⟩ .ret)))),[.t 4]⟩
abbrev g125_S:=Sys.on [] []
def spec_l13Bit (a_area:Str) (a_k:Int):Option (Bool):=if 0 ≤ (IntKind.i64.wrap (4 + (IntKind.i64.wrap (Int.tdiv a_k 8)))) then (a_area[((IntKind.i64.wrap (4 + (IntKind.i64.wrap (Int.tdiv a_k 8))))).toNat]?).bind fun (b1:UInt8)=>if (IntKind.u64.wrap ((Int.tmod a_k 8))) < 0 then none else some ((decide ((bitV .and .u8 ((shrV .u8 ((b1.toNat:Int)) ((IntKind.u64.wrap ((Int.tmod a_k 8)))))) 1) = 1))) else none
@[simp] def g125_O:Bool → TV × List Blk:=fun r=>((.bool r),[])
def g125_E (a:Str × Int):List TV:=[(.str a.1),(.int .i64 a.2)]
theorem g125_run (a_area:Str) (a_k:Int) :callFn (X g125_S) g125_tf (g125_E (a_area,a_k)) [] = (spec_l13Bit a_area a_k).map g125_O:=by
  rw [callFn_eq]
  simp (maxSteps:=2000000) (maxDischargeDepth:=8) -implicitDefEqProofs [g125_tf,spec_l13Bit,g125_E] <;> (try simp only [map_to_bind,g125_O])
def g125_r:Rule:=RlO g125_E (fun a=>spec_l13Bit a.1 a.2) g125_O
theorem g125_ok:RuleOk Tryz.prog 180 g125_r:=ok_rlo (S:=g125_S) (tf:=g125_tf) (SysOk.on trivial trivial) (trE_ok (ks:=[]) Tryz.func180 (by kernel_rfl)) fun a=>g125_run a.1 a.2
@[simp] theorem g125_app (y0 y1):g125_r [(.str y0),(.int .i64 y1)] = (spec_l13Bit y0 y1).map g125_O :=
  RlO_app (enc:=g125_E) (by intro a b h; simp [g125_E,Prod.ext_iff] at h ⊢; simp [h]) (y0,y1)
/-! spec.l13Runs -/
def g105p2_c:TC:=(.seq (.seq (.ops [mo 42 7,mo 43 42,⟨(some 44),(some (43,true)),(.mv (.t 5))⟩,⟨(some 45),(some (43,true)),(.un .not (.t 44))⟩,pk 46 (.t 43) (.t 45) (kb false)]) (.trim [0,3,4,6,7,46] (.cond (.t 46) (.after (.ops [mo 47 4,mo 48 6,oo 49 (.build [(.int .i64 0),(.int .i64 0)] [(0,1,(.t 48)),(1,1,(ki 1))]),oo 50 (.bslice [(.int .i64 0),(.int .i64 0)] 1 [(0,(.t 49))]),oo 51 (.append 67 2 16 (.t 47) (.t 50)),mo 4 51]) ⟨[(0,0),(3,0),(4,1),(6,0),(7,0)],[(2,1)],0⟩) (.keep ⟨[(0,0),(3,0),(4,1),(6,0),(7,0)],[(0,1)],0⟩ .skip)))) (.trim [0,3,4,6,7] (.after (.ops [mo 52 7,mo 5 52]) ⟨[(0,0),(3,0),(4,1),(5,0),(6,0)],[(0,1)],0⟩)))
def g105l1_cb:TC:=(.seq (.seq (.ops [mo 14 6,mo 15 0,nk 16 15,fa 17 4 16,fa 18 0 17,ld 19 18,bn 20 .lss (.t 14) (.t 19)]) (.trim [0,3,4,5,6,20] (.cond (.t 20) .skip (.keep ⟨[(4,1)],[(0,1)],0⟩ (.exit 0))))) (.trim [0,3,4,5,6] (.seq (.block 1 (.seq (.ops [mo 23 3,mo 24 6,ca 25 180 [.t 23,.t 24],nt 26 25,mo 7 26]) (.trim [0,3,4,5,6,7] (.seq (.seq (.ops [mo 27 7,mo 28 27,⟨(some 29),(some (28,true)),(.mv (.t 5))⟩,pk 30 (.t 28) (.t 29) (kb false)]) (.trim [0,3,4,5,6,7,30] (.cond (.t 30) (.seq (.ops [mo 31 4,le 32 31,bn 33 .sub (.t 32) (ki 1),mo 8 33]) (.trim [0,3,4,5,6,7,8] (.after (.ops [mo 34 4,mo 35 8,ia 36 2 34 35,fa 37 1 36,ld 38 37,bn 39 .add (.t 38) (ki 1),ia 40 2 34 35,fa 41 1 40,⟨none,none,(.store 1 (.t 41) (.t 39))⟩]) ⟨[(0,0),(3,0),(4,1),(5,0),(6,0),(7,0)],[(0,1)],0⟩))) (.keep ⟨[(0,0),(3,0),(4,1),(5,0),(6,0),(7,0)],[(0,1)],0⟩ .skip)))) (.trim [0,3,4,5,6,7] g105p2_c))))) (.trim [0,3,4,5,6] (.after (.ops [mo 21 6,bn 22 .add (.t 21) (ki 1),mo 6 22]) ⟨[(0,0),(3,0),(4,1),(5,0),(6,0)],[(0,1)],0⟩)))))
def g105l1_c:TC:=.loop [0,3,4,5,6] g105l1_cb
def g105_tf:TFn:=⟨(.seq (.ops [oo 2 (.mv (.c .nils))]) (.trim [0] (.seq (.ops [mo 9 0,ca 10 83 [.t 9],mo 3 10]) (.trim [0,3] (.seq (.ops [oo 11 (.bslice [(.int .i64 0),(.int .i64 0)] 0 []),mo 4 11]) (.trim [0,3,4] (.seq (.ops [oo 5 (.mv (kb false))]) (.trim [0,3,4,5] (.seq (.seq (.ops [mo 12 0,ca 13 107 [.t 12],mo 6 13]) (.trim [0,3,4,5,6] (.block 0 (.keep ⟨[(0,0),(3,0),(4,1),(5,0),(6,0)],[(1000,1)],0⟩ g105l1_c)))) (.trim [4] (.seq (.ops [mo 53 4,mo 2 53]) (.keep ⟨[(2,1)],[(0,1)],0⟩ .ret)))))))))))),[.t 2]⟩
abbrev g105_S:=Sys.on [(83,g101_r),(107,g84_r),(180,g125_r)] []
def spec_l13Runs_p2 (v22:List Str) (v23:List (Int × Str)) (v24:Int) (v25:Bool) (v26:Int) (v27:Int) (v28:Int) (v29:Int) (v30:Int) (v31:Int) (v32:List (Int × Str)) (v33:List (Int × Str)) (v34:Str) (v35:List (Int × Int)) (v36:Bool) (v37:Int) (v38:Bool):Option (List Str × (List (Int × Str)) × Int × Bool × Int × Int × Int × Int × Int × Int × (List (Int × Str)) × (List (Int × Str)) × Str × (List (Int × Int)) × Bool × Int):=if v38 = true then if ¬(v36 = true) then (appL 16 v35 ((lit [(v37,1)]:List (Int × Int)))).bind fun l39=>some ((v22,v23,v24,v25,v26,v27,v28,v29,v30,v31,v32,v33,v34,l39,v38,v37)) else some ((v22,v23,v24,v25,v26,v27,v28,v29,v30,v31,v32,v33,v34,v35,v38,v37)) else some ((v22,v23,v24,v25,v26,v27,v28,v29,v30,v31,v32,v33,v34,v35,v38,v37))
@[simp] theorem g105p2_eq (q0:List TV)(y0 y1 y2 y3 y4 y5 y6 y7 y8 y9 y10 y11 y12)(y13:List (Int × Int))(y14 y15 y16){n1:Nat}(h1:n1 = y13.length):X g105_S g105p2_c [(0,(.vp ((.vs (rows y0))::(.vs (rows y1))::(.int .i64 y2)::(.bool y3)::(.int .i64 y4)::(.int .i64 y5)::(.int .i64 y6)::(.int .i64 y7)::(.int .i64 y8)::(.int .i64 y9)::(.vs (rows y10))::(.vs (rows y11))::q0))),(3,(.str y12)),(4,(ow 0 n1)),(5,(.bool y14)),(6,(.int .i64 y15)),(7,(.bool y16))] [(ob 2 y13)] = (spec_l13Runs_p2 y0 y1 y2 y3 y4 y5 y6 y7 y8 y9 y10 y11 y12 y13 y14 y15 y16).map (fun t=>(.nrm,[(0,(.vp ((.vs (rows t.1))::(.vs (rows t.2.1))::(.int .i64 t.2.2.1)::(.bool t.2.2.2.1)::(.int .i64 t.2.2.2.2.1)::(.int .i64 t.2.2.2.2.2.1)::(.int .i64 t.2.2.2.2.2.2.1)::(.int .i64 t.2.2.2.2.2.2.2.1)::(.int .i64 t.2.2.2.2.2.2.2.2.1)::(.int .i64 t.2.2.2.2.2.2.2.2.2.1)::(.vs (rows t.2.2.2.2.2.2.2.2.2.2.1))::(.vs (rows t.2.2.2.2.2.2.2.2.2.2.2.1))::q0))),(3,(.str t.2.2.2.2.2.2.2.2.2.2.2.2.1)),(4,(ow 0 t.2.2.2.2.2.2.2.2.2.2.2.2.2.1.length)),(5,(.bool t.2.2.2.2.2.2.2.2.2.2.2.2.2.2.1)),(6,(.int .i64 t.2.2.2.2.2.2.2.2.2.2.2.2.2.2.2))],[(ob 2 t.2.2.2.2.2.2.2.2.2.2.2.2.2.1)])):=by
  subst h1
  simp (maxSteps:=2000000) (maxDischargeDepth:=8) -implicitDefEqProofs [g105p2_c,spec_l13Runs_p2,bslV_lit (α:=Int × Int) (zs:=[(.int .i64 0),(.int .i64 0)])] <;> (try simp only [map_to_bind])
@[reducible,simp] def g105l1_F:((List (Int × Int))) → Out:=(fun t=>(.ext 0,[(4,(ow 0 t.length))],[(ob 2 t)]))
def spec_l13Runs_l1_b (v3:List Str) (v4:List (Int × Str)) (v5:Int) (v6:Bool) (v7:Int) (v8:Int) (v9:Int) (v10:Int) (v11:Int) (v12:Int) (v13:List (Int × Str)) (v14:List (Int × Str)) (v15:Str) (v16:List (Int × Int)) (v17:Bool) (v18:Int):Option ((List Str × (List (Int × Str)) × Int × Bool × Int × Int × Int × Int × Int × Int × (List (Int × Str)) × (List (Int × Str)) × Str × (List (Int × Int)) × Bool × Int) ⊕ ((List (Int × Int)))):=if v18 < v7 then (spec_l13Bit v15 v18).bind fun r19=>if ¬(r19 = true) then if v17 = true then if 0 ≤ (IntKind.i64.wrap (((v16.length:Nat):Int) - 1)) ∧ (IntKind.i64.wrap (((v16.length:Nat):Int) - 1)) < ((v16.length:Nat):Int) then (v16[((IntKind.i64.wrap (((v16.length:Nat):Int) - 1))).toNat]?).bind fun x20=>if 0 ≤ (IntKind.i64.wrap (((v16.length:Nat):Int) - 1)) ∧ (IntKind.i64.wrap (((v16.length:Nat):Int) - 1)) < ((v16.length:Nat):Int) then (v16[((IntKind.i64.wrap (((v16.length:Nat):Int) - 1))).toNat]?).bind fun x21=>(spec_l13Runs_p2 v3 v4 v5 v6 v7 v8 v9 v10 v11 v12 v13 v14 v15 ((v16.set ((IntKind.i64.wrap (((v16.length:Nat):Int) - 1))).toNat (x21.1,(IntKind.i64.wrap (x20.2 + 1))))) v17 v18 ((!r19))).bind fun r40=>some (.inl (r40.1,r40.2.1,r40.2.2.1,r40.2.2.2.1,r40.2.2.2.2.1,r40.2.2.2.2.2.1,r40.2.2.2.2.2.2.1,r40.2.2.2.2.2.2.2.1,r40.2.2.2.2.2.2.2.2.1,r40.2.2.2.2.2.2.2.2.2.1,r40.2.2.2.2.2.2.2.2.2.2.1,r40.2.2.2.2.2.2.2.2.2.2.2.1,r40.2.2.2.2.2.2.2.2.2.2.2.2.1,r40.2.2.2.2.2.2.2.2.2.2.2.2.2.1,r40.2.2.2.2.2.2.2.2.2.2.2.2.2.2.1,(IntKind.i64.wrap (r40.2.2.2.2.2.2.2.2.2.2.2.2.2.2.2 + 1)))) else none else none else (spec_l13Runs_p2 v3 v4 v5 v6 v7 v8 v9 v10 v11 v12 v13 v14 v15 v16 v17 v18 ((!r19))).bind fun r41=>some (.inl (r41.1,r41.2.1,r41.2.2.1,r41.2.2.2.1,r41.2.2.2.2.1,r41.2.2.2.2.2.1,r41.2.2.2.2.2.2.1,r41.2.2.2.2.2.2.2.1,r41.2.2.2.2.2.2.2.2.1,r41.2.2.2.2.2.2.2.2.2.1,r41.2.2.2.2.2.2.2.2.2.2.1,r41.2.2.2.2.2.2.2.2.2.2.2.1,r41.2.2.2.2.2.2.2.2.2.2.2.2.1,r41.2.2.2.2.2.2.2.2.2.2.2.2.2.1,r41.2.2.2.2.2.2.2.2.2.2.2.2.2.2.1,(IntKind.i64.wrap (r41.2.2.2.2.2.2.2.2.2.2.2.2.2.2.2 + 1)))) else (spec_l13Runs_p2 v3 v4 v5 v6 v7 v8 v9 v10 v11 v12 v13 v14 v15 v16 v17 v18 ((!r19))).bind fun r42=>some (.inl (r42.1,r42.2.1,r42.2.2.1,r42.2.2.2.1,r42.2.2.2.2.1,r42.2.2.2.2.2.1,r42.2.2.2.2.2.2.1,r42.2.2.2.2.2.2.2.1,r42.2.2.2.2.2.2.2.2.1,r42.2.2.2.2.2.2.2.2.2.1,r42.2.2.2.2.2.2.2.2.2.2.1,r42.2.2.2.2.2.2.2.2.2.2.2.1,r42.2.2.2.2.2.2.2.2.2.2.2.2.1,r42.2.2.2.2.2.2.2.2.2.2.2.2.2.1,r42.2.2.2.2.2.2.2.2.2.2.2.2.2.2.1,(IntKind.i64.wrap (r42.2.2.2.2.2.2.2.2.2.2.2.2.2.2.2 + 1)))) else some (.inr v16)
theorem g105l1_b_eq (q0:List TV) (v3:List Str) (v4:List (Int × Str)) (v5:Int) (v6:Bool) (v7:Int) (v8:Int) (v9:Int) (v10:Int) (v11:Int) (v12:Int) (v13:List (Int × Str)) (v14:List (Int × Str)) (v15:Str) (v16:List (Int × Int)) (v17:Bool) (v18:Int):X g105_S g105l1_cb (keepEnv [0,3,4,5,6] [(0,(.vp ((.vs (rows v3))::(.vs (rows v4))::(.int .i64 v5)::(.bool v6)::(.int .i64 v7)::(.int .i64 v8)::(.int .i64 v9)::(.int .i64 v10)::(.int .i64 v11)::(.int .i64 v12)::(.vs (rows v13))::(.vs (rows v14))::q0))),(3,(.str v15)),(4,(ow 0 v16.length)),(5,(.bool v17)),(6,(.int .i64 v18))]) [(ob 2 v16)] = (spec_l13Runs_l1_b v3 v4 v5 v6 v7 v8 v9 v10 v11 v12 v13 v14 v15 v16 v17 v18).map (Sum.elim (fun s=>(TX.nrm,[(0,(.vp ((.vs (rows s.1))::(.vs (rows s.2.1))::(.int .i64 s.2.2.1)::(.bool s.2.2.2.1)::(.int .i64 s.2.2.2.2.1)::(.int .i64 s.2.2.2.2.2.1)::(.int .i64 s.2.2.2.2.2.2.1)::(.int .i64 s.2.2.2.2.2.2.2.1)::(.int .i64 s.2.2.2.2.2.2.2.2.1)::(.int .i64 s.2.2.2.2.2.2.2.2.2.1)::(.vs (rows s.2.2.2.2.2.2.2.2.2.2.1))::(.vs (rows s.2.2.2.2.2.2.2.2.2.2.2.1))::q0))),(3,(.str s.2.2.2.2.2.2.2.2.2.2.2.2.1)),(4,(ow 0 s.2.2.2.2.2.2.2.2.2.2.2.2.2.1.length)),(5,(.bool s.2.2.2.2.2.2.2.2.2.2.2.2.2.2.1)),(6,(.int .i64 s.2.2.2.2.2.2.2.2.2.2.2.2.2.2.2))],[(ob 2 s.2.2.2.2.2.2.2.2.2.2.2.2.2.1)])) g105l1_F):=by
  simp (maxSteps:=2000000) (maxDischargeDepth:=8) -implicitDefEqProofs [g105l1_cb,spec_l13Runs_l1_b,bslV_lit (α:=Int × Int) (zs:=[(.int .i64 0),(.int .i64 0)])] <;> (try simp only [map_to_bind,g105l1_F])
def spec_l13Runs_l1  (s:List Str × (List (Int × Str)) × Int × Bool × Int × Int × Int × Int × Int × Int × (List (Int × Str)) × (List (Int × Str)) × Str × (List (Int × Int)) × Bool × Int):Option ((List (Int × Int))):=loopO (fun s=>spec_l13Runs_l1_b  s.1 s.2.1 s.2.2.1 s.2.2.2.1 s.2.2.2.2.1 s.2.2.2.2.2.1 s.2.2.2.2.2.2.1 s.2.2.2.2.2.2.2.1 s.2.2.2.2.2.2.2.2.1 s.2.2.2.2.2.2.2.2.2.1 s.2.2.2.2.2.2.2.2.2.2.1 s.2.2.2.2.2.2.2.2.2.2.2.1 s.2.2.2.2.2.2.2.2.2.2.2.2.1 s.2.2.2.2.2.2.2.2.2.2.2.2.2.1 s.2.2.2.2.2.2.2.2.2.2.2.2.2.2.1 s.2.2.2.2.2.2.2.2.2.2.2.2.2.2.2) s
@[simp] theorem g105l1_eq (q0:List TV)(y0 y1 y2 y3 y4 y5 y6 y7 y8 y9 y10 y11 y12)(y13:List (Int × Int))(y14 y15){n1:Nat}(h1:n1 = y13.length):X g105_S g105l1_c [(0,(.vp ((.vs (rows y0))::(.vs (rows y1))::(.int .i64 y2)::(.bool y3)::(.int .i64 y4)::(.int .i64 y5)::(.int .i64 y6)::(.int .i64 y7)::(.int .i64 y8)::(.int .i64 y9)::(.vs (rows y10))::(.vs (rows y11))::q0))),(3,(.str y12)),(4,(ow 0 n1)),(5,(.bool y14)),(6,(.int .i64 y15))] [(ob 2 y13)] = (spec_l13Runs_l1  (y0,y1,y2,y3,y4,y5,y6,y7,y8,y9,y10,y11,y12,y13,y14,y15)).map g105l1_F:=by
  subst h1
  exact loop_X _ _ _ _ (by intro r; first | (simp; done) | (rcases r with r | r <;> simp; done) | (rcases r with r | r | r <;> simp; done) | (rcases r with r | r | r | r <;> simp)) (fun s=>g105l1_b_eq q0  s.1 s.2.1 s.2.2.1 s.2.2.2.1 s.2.2.2.2.1 s.2.2.2.2.2.1 s.2.2.2.2.2.2.1 s.2.2.2.2.2.2.2.1 s.2.2.2.2.2.2.2.2.1 s.2.2.2.2.2.2.2.2.2.1 s.2.2.2.2.2.2.2.2.2.2.1 s.2.2.2.2.2.2.2.2.2.2.2.1 s.2.2.2.2.2.2.2.2.2.2.2.2.1 s.2.2.2.2.2.2.2.2.2.2.2.2.2.1 s.2.2.2.2.2.2.2.2.2.2.2.2.2.2.1 s.2.2.2.2.2.2.2.2.2.2.2.2.2.2.2) (y0,y1,y2,y3,y4,y5,y6,y7,y8,y9,y10,y11,y12,y13,y14,y15)
@[simp] theorem g105l1_eq_13 (q0:List TV)(y0 y1 y2 y3 y4 y5 y6 y7 y8 y9 y10 y11 y12 y13 y14):X g105_S g105l1_c [(0,(.vp ((.vs (rows y0))::(.vs (rows y1))::(.int .i64 y2)::(.bool y3)::(.int .i64 y4)::(.int .i64 y5)::(.int .i64 y6)::(.int .i64 y7)::(.int .i64 y8)::(.int .i64 y9)::(.vs (rows y10))::(.vs (rows y11))::q0))),(3,(.str y12)),(4,.es),(5,(.bool y13)),(6,(.int .i64 y14))] [.dead] = (spec_l13Runs_l1  (y0,y1,y2,y3,y4,y5,y6,y7,y8,y9,y10,y11,y12,([]:List (Int × Int)),y13,y14)).map g105l1_F :=
  g105l1_eq q0 y0 y1 y2 y3 y4 y5 y6 y7 y8 y9 y10 y11 y12 ([]:List (Int × Int)) y13 y14 rfl
def spec_l13Runs (a_p:K1):Option ((List (Int × Int))):=(spec_l13Area a_p).bind fun r1=>(spec_l13First a_p).bind fun r2=>(spec_l13Runs_l1 ((a_p.1.1,a_p.1.2.1,a_p.1.2.2.1,a_p.1.2.2.2,a_p.2.1.1,a_p.2.1.2.1,a_p.2.1.2.2.1,a_p.2.1.2.2.2,a_p.2.2.1,a_p.2.2.2.1,a_p.2.2.2.2.1,a_p.2.2.2.2.2,r1,([]:List (Int × Int)),false,r2))).bind fun r43=>some r43
@[simp] def g105_O:((List (Int × Int))) → TV × List Blk:=fun r=>((ow 0 r.length),[(ob 2 r)])
def g105_E (a:K1 × List TV):List TV:=[(.vp ((.vs (rows a.1.1.1))::(.vs (rows a.1.1.2.1))::(.int .i64 a.1.1.2.2.1)::(.bool a.1.1.2.2.2)::(.int .i64 a.1.2.1.1)::(.int .i64 a.1.2.1.2.1)::(.int .i64 a.1.2.1.2.2.1)::(.int .i64 a.1.2.1.2.2.2)::(.int .i64 a.1.2.2.1)::(.int .i64 a.1.2.2.2.1)::(.vs (rows a.1.2.2.2.2.1))::(.vs (rows a.1.2.2.2.2.2))::a.2))]
theorem g105_run (a_p:K1) (q0:List TV):callFn (X g105_S) g105_tf (g105_E (a_p,q0)) [] = (spec_l13Runs a_p).map g105_O:=by
  rw [callFn_eq]
  simp (maxSteps:=2000000) (maxDischargeDepth:=8) -implicitDefEqProofs [g105_tf,spec_l13Runs,g105_E,bslV_lit (α:=Int × Int) (zs:=[(.int .i64 0),(.int .i64 0)])] <;> (try simp only [map_to_bind,g105_O])
def g105_r:Rule:=RlO g105_E (fun a=>spec_l13Runs a.1) g105_O
theorem g105_ok:RuleOk Tryz.prog 183 g105_r:=ok_rlo (S:=g105_S) (tf:=g105_tf) (SysOk.on ⟨g101_ok,g84_ok,g125_ok,trivial⟩ trivial) (trE_ok (ks:=[[0,3,4,5,6]]) Tryz.func183 (by kernel_rfl)) fun a=>g105_run a.1 a.2
@[simp] theorem g105_app (y0 y1 y2 y3 y4 y5 y6 y7 y8 y9 y10 y11)(q0:List TV):g105_r [(.vp ((.vs (rows y0))::(.vs (rows y1))::(.int .i64 y2)::(.bool y3)::(.int .i64 y4)::(.int .i64 y5)::(.int .i64 y6)::(.int .i64 y7)::(.int .i64 y8)::(.int .i64 y9)::(.vs (rows y10))::(.vs (rows y11))::q0))] = (spec_l13Runs (((y0,y1,y2,y3),(y4,y5,y6,y7),y8,y9,y10,y11))).map g105_O :=
  RlO_app (enc:=g105_E) (by intro a b h; simp [g105_E,Prod.ext_iff] at h ⊢; simp [h]) (((y0,y1,y2,y3),(y4,y5,y6,y7),y8,y9,y10,y11),q0)
/-! spec.l13Best -/
def g106l1_cb:TC:=(.seq (.seq (.ops [mo 8 6,mo 9 0,le 10 9,bn 11 .lss (.t 8) (.t 10)]) (.trim [0,1,5,6,11] (.cond (.t 11) .skip (.keep ⟨[(5,0)],[(0,0)],0⟩ (.exit 0))))) (.trim [0,1,5,6] (.seq (.block 1 (.seq (.draw [([],mo 14 0),([],mo 15 6),([0,1],ia 16 2 14 15),([0,1,2],fa 17 1 16),([0,1,2,3],ld 18 17),([],mo 19 1),([0,1,2,3,4,5],bn 20 .geq (.t 18) (.t 19)),([0,1,2,3,4,5,6],mo 21 20),([0,1,2,3,4,5,6,7],⟨(some 22),(some (21,true)),(.faddr 0 (.t 5))⟩),([0,1,2,3,4,5,6,7,8],⟨(some 23),(some (21,true)),(.load none (.t 22))⟩),([0,1,2,3,4,5,6,7,8,9],⟨(some 24),(some (21,true)),(.bin .num .eql (.t 23) (ki 0))⟩),([0,1,2,3,4,5,6,7,8,9,10],⟨(some 25),(some (21,true)),(.mv (.t 24))⟩),([0,1,2,3,4,5,6,7,8,9,10,11],⟨(some 26),(some (25,false)),(.mv (.t 0))⟩),([0,1,2,3,4,5,6,7,8,9,10,11],⟨(some 27),(some (25,false)),(.mv (.t 6))⟩),([0,1,2,3,4,5,6,7,8,9,10,11,12,13],⟨(some 28),(some (25,false)),(.iaddr 2 (.t 26) (.t 27))⟩),([0,1,2,3,4,5,6,7,8,9,10,11,12,13,14],⟨(some 29),(some (25,false)),(.faddr 1 (.t 28))⟩),([0,1,2,3,4,5,6,7,8,9,10,11,12,13,14,15],⟨(some 30),(some (25,false)),(.load none (.t 29))⟩),([0,1,2,3,4,5,6,7,8,9,10,11],⟨(some 31),(some (25,false)),(.faddr 1 (.t 5))⟩),([0,1,2,3,4,5,6,7,8,9,10,11,17],⟨(some 32),(some (25,false)),(.load none (.t 31))⟩)] [⟨(some 33),(some (25,false)),(.bin .num .lss (.t 30) (.t 32))⟩,⟨(some 34),(some (21,true)),(.pick (.t 25) (kb true) (.t 33))⟩,pk 35 (.t 21) (.t 34) (kb false)]) (.trim [0,1,5,6,35] (.cond (.t 35) (.after (.ops [mo 36 0,mo 37 6,ia 38 2 36 37,ln 39 2 38,⟨none,none,(.store 2 (.t 5) (.t 39))⟩]) ⟨[(0,0),(1,0),(5,0),(6,0)],[(0,0)],0⟩) (.keep ⟨[(0,0),(1,0),(5,0),(6,0)],[(0,0)],0⟩ .skip))))) (.trim [0,1,5,6] (.after (.ops [mo 12 6,bn 13 .add (.t 12) (ki 1),mo 6 13]) ⟨[(0,0),(1,0),(5,0),(6,0)],[(0,0)],0⟩)))))
def g106l1_c:TC:=.loop [0,1,5,6] g106l1_cb
def g106_tf:TFn:=⟨(.seq (.ops [oo 4 (.mv (ki 0))]) (.trim [0,1] (.seq (.ops [oo 7 (.build [(.int .i64 0),(.int .i64 0)] []),oo 5 (.alloc [(.int .i64 0),(.int .i64 0)]),⟨none,none,(.store 2 (.t 5) (.t 7))⟩]) (.trim [0,1,5] (.seq (.seq (.ops [oo 6 (.mv (ki 0))]) (.trim [0,1,5,6] (.block 0 (.keep ⟨[(0,0),(1,0),(5,0),(6,0)],[(0,0)],0⟩ g106l1_c)))) (.trim [5] (.seq (.ops [fa 40 0 5,ld 41 40,mo 4 41]) (.keep ⟨[(4,0)],[],0⟩ .ret)))))))),[.t 4]⟩
abbrev g106_S:=Sys.on [] []
@[reducible,simp] def g106l1_F:((Int × Int)) → Out:=(fun t=>(.ext 0,[(5,(.ptr 0 0 0))],[(.live 2 [[(.int .i64 t.1),(.int .i64 t.2)]])]))
def spec_l13Best_l1_b (v1:List (Int × Int)) (v2:Int) (v3:Int × Int) (v4:Int):Option (((Int × Int) × Int) ⊕ ((Int × Int))):=if v4 < (v1.length:Int) then if 0 ≤ v4 then (v1[(v4).toNat]?).bind fun x5=>if x5.2 ≥ v2 then if v3.1 = 0 then if 0 ≤ v4 then (v1[(v4).toNat]?).bind fun x7=>some (.inl (x7,(IntKind.i64.wrap (v4 + 1)))) else none else if 0 ≤ v4 then (v1[(v4).toNat]?).bind fun x6=>if x6.2 < v3.2 then if 0 ≤ v4 then (v1[(v4).toNat]?).bind fun x8=>some (.inl (x8,(IntKind.i64.wrap (v4 + 1)))) else none else some (.inl (v3,(IntKind.i64.wrap (v4 + 1)))) else none else some (.inl (v3,(IntKind.i64.wrap (v4 + 1)))) else none else some (.inr v3)
theorem g106l1_b_eq  (v1:List (Int × Int)) (v2:Int) (v3:Int × Int) (v4:Int):X g106_S g106l1_cb (keepEnv [0,1,5,6] [(0,(.vs (rows v1))),(1,(.int .i64 v2)),(5,(.ptr 0 0 0)),(6,(.int .i64 v4))]) [(.live 2 [[(.int .i64 v3.1),(.int .i64 v3.2)]])] = (spec_l13Best_l1_b v1 v2 v3 v4).map (Sum.elim (fun s=>(TX.nrm,[(0,(.vs (rows v1))),(1,(.int .i64 v2)),(5,(.ptr 0 0 0)),(6,(.int .i64 s.2))],[(.live 2 [[(.int .i64 s.1.1),(.int .i64 s.1.2)]])])) g106l1_F):=by
  simp (maxSteps:=2000000) (maxDischargeDepth:=8) -implicitDefEqProofs [g106l1_cb,spec_l13Best_l1_b] <;> (try simp only [map_to_bind,g106l1_F])
def spec_l13Best_l1 (v1:List (Int × Int)) (v2:Int) (s:(Int × Int) × Int):Option ((Int × Int)):=loopO (fun s=>spec_l13Best_l1_b v1 v2 s.1 s.2) s
@[simp] theorem g106l1_eq (y0 y1 y2 y3 y4):X g106_S g106l1_c [(0,(.vs (rows y0))),(1,(.int .i64 y1)),(5,(.ptr 0 0 0)),(6,(.int .i64 y4))] [(.live 2 [[(.int .i64 y2),(.int .i64 y3)]])] = (spec_l13Best_l1 y0 y1 ((y2,y3),y4)).map g106l1_F:=by
  exact loop_X _ _ _ _ (by intro r; first | (simp; done) | (rcases r with r | r <;> simp; done) | (rcases r with r | r | r <;> simp; done) | (rcases r with r | r | r | r <;> simp)) (fun s=>g106l1_b_eq  y0 y1 s.1 s.2) ((y2,y3),y4)
def spec_l13Best (a_list:List (Int × Int)) (a_n:Int):Option (Int):=(spec_l13Best_l1 a_list a_n (((0,0),0))).bind fun r9=>some r9.1
@[simp] def g106_O:Int → TV × List Blk:=fun r=>((.int .i64 r),[])
def g106_E (a:(List (Int × Int)) × Int):List TV:=[(.vs (rows a.1)),(.int .i64 a.2)]
theorem g106_run (a_list:List (Int × Int)) (a_n:Int) :callFn (X g106_S) g106_tf (g106_E (a_list,a_n)) [] = (spec_l13Best a_list a_n).map g106_O:=by
  rw [callFn_eq]
  simp (maxSteps:=2000000) (maxDischargeDepth:=8) -implicitDefEqProofs [g106_tf,spec_l13Best,g106_E] <;> (try simp only [map_to_bind,g106_O])
def g106_r:Rule:=RlO g106_E (fun a=>spec_l13Best a.1 a.2) g106_O
theorem g106_ok:RuleOk Tryz.prog 182 g106_r:=ok_rlo (S:=g106_S) (tf:=g106_tf) (SysOk.on trivial trivial) (trE_ok (ks:=[[0,1,5,6],[19]]) Tryz.func182 (by kernel_rfl)) fun a=>g106_run a.1 a.2
@[simp] theorem g106_app (y0 y1):g106_r [(.vs (rows y0)),(.int .i64 y1)] = (spec_l13Best y0 y1).map g106_O :=
  RlO_app (enc:=g106_E) (by intro a b h; simp [g106_E,Prod.ext_iff] at h ⊢; simp [h]) (y0,y1)
/-! spec.l13Mark -/
def g107l1_cb:TC:=(.seq (.seq (.ops [mo 15 10,mo 16 1,mo 17 2,bn 18 .add (.t 16) (.t 17),bn 19 .lss (.t 15) (.t 18)]) (.trim [1,2,3,9,10,19] (.cond (.t 19) .skip (.keep ⟨[(9,0)],[(0,0)],0⟩ (.exit 0))))) (.trim [1,2,3,9,10] (.seq (.block 1 (.seq (.ops [mo 22 10,bn 23 .rem (.t 22) (ki 8),oo 24 (.conv (.toInt .u64) (.t 23)),oo 25 (.bin .num .shl (.c (.int .u8 1)) (.t 24)),mo 11 25]) (.trim [1,2,3,9,10,11] (.seq (.ops [mo 26 3]) (.trim [1,2,3,9,10,11,26] (.cond (.t 26) (.after (.ops [mo 27 9,mo 28 10,bn 29 .quo (.t 28) (ki 8),bn 30 .add (ki 4) (.t 29),mo 31 9,mo 32 10,bn 33 .quo (.t 32) (ki 8),bn 34 .add (ki 4) (.t 33),ia 35 1 31 34,ld 36 35,mo 37 11,bn 38 .or (.t 36) (.t 37),ia 39 1 27 30,⟨none,none,(.store 1 (.t 39) (.t 38))⟩]) ⟨[(1,0),(2,0),(3,0),(9,0),(10,0)],[(0,0)],0⟩) (.after (.ops [mo 40 9,mo 41 10,bn 42 .quo (.t 41) (ki 8),bn 43 .add (ki 4) (.t 42),mo 44 9,mo 45 10,bn 46 .quo (.t 45) (ki 8),bn 47 .add (ki 4) (.t 46),ia 48 1 44 47,ld 49 48,mo 50 11,bn 51 .andNot (.t 49) (.t 50),ia 52 1 40 43,⟨none,none,(.store 1 (.t 52) (.t 51))⟩]) ⟨[(1,0),(2,0),(3,0),(9,0),(10,0)],[(0,0)],0⟩))))))) (.trim [1,2,3,9,10] (.after (.ops [mo 20 10,bn 21 .add (.t 20) (ki 1),mo 10 21]) ⟨[(1,0),(2,0),(3,0),(9,0),(10,0)],[(0,0)],0⟩)))))
def g107l1_c:TC:=.loop [1,2,3,9,10] g107l1_cb
def g107_tf:TFn:=⟨(.seq (.ops [oo 8 (.mv (.c (.str [])))]) (.trim [0,1,2,3] (.seq (.ops [mo 12 0,oo 13 (.conv .toBytes (.t 12)),mo 9 13]) (.trim [1,2,3,9] (.seq (.seq (.ops [mo 14 1,mo 10 14]) (.trim [1,2,3,9,10] (.block 0 (.keep ⟨[(1,0),(2,0),(3,0),(9,0),(10,0)],[(0,0)],0⟩ g107l1_c)))) (.trim [9] (.seq (.ops [mo 53 9,oo 54 (.conv .toStr (.t 53)),mo 8 54]) (.keep ⟨[(8,0)],[],0⟩ .ret)))))))),[.t 8]⟩
abbrev g107_S:=Sys.on [] []
@[reducible,simp] def g107l1_F:(List Bt) → Out:=(fun t=>(.ext 0,[(9,(.hs 0 0 t.length false))],[(.live 1 (rows t))]))
def spec_l13Mark_l1_b (v2:Int) (v3:Int) (v4:Bool) (v5:List Bt) (v6:Int):Option ((List Bt × Int) ⊕ (List Bt)):=if v6 < (IntKind.i64.wrap (v2 + v3)) then if (IntKind.u64.wrap ((Int.tmod v6 8))) < 0 then none else if v4 = true then if 0 ≤ (IntKind.i64.wrap (4 + (IntKind.i64.wrap (Int.tdiv v6 8)))) ∧ (IntKind.i64.wrap (4 + (IntKind.i64.wrap (Int.tdiv v6 8)))) < ((v5.length:Nat):Int) then (v5[((IntKind.i64.wrap (4 + (IntKind.i64.wrap (Int.tdiv v6 8))))).toNat]?).bind fun x7=>if 0 ≤ (IntKind.i64.wrap (4 + (IntKind.i64.wrap (Int.tdiv v6 8)))) ∧ (IntKind.i64.wrap (4 + (IntKind.i64.wrap (Int.tdiv v6 8)))) < ((v5.length:Nat):Int) then (v5[((IntKind.i64.wrap (4 + (IntKind.i64.wrap (Int.tdiv v6 8))))).toNat]?).bind fun x8=>some (.inl ((v5.set ((IntKind.i64.wrap (4 + (IntKind.i64.wrap (Int.tdiv v6 8))))).toNat (⟨UInt8.ofNat ((bitV .or .u8 ((x7.v.toNat:Int)) ((shlV .u8 1 ((IntKind.u64.wrap ((Int.tmod v6 8)))))))).toNat⟩:Bt)),(IntKind.i64.wrap (v6 + 1)))) else none else none else if 0 ≤ (IntKind.i64.wrap (4 + (IntKind.i64.wrap (Int.tdiv v6 8)))) ∧ (IntKind.i64.wrap (4 + (IntKind.i64.wrap (Int.tdiv v6 8)))) < ((v5.length:Nat):Int) then (v5[((IntKind.i64.wrap (4 + (IntKind.i64.wrap (Int.tdiv v6 8))))).toNat]?).bind fun x9=>if 0 ≤ (IntKind.i64.wrap (4 + (IntKind.i64.wrap (Int.tdiv v6 8)))) ∧ (IntKind.i64.wrap (4 + (IntKind.i64.wrap (Int.tdiv v6 8)))) < ((v5.length:Nat):Int) then (v5[((IntKind.i64.wrap (4 + (IntKind.i64.wrap (Int.tdiv v6 8))))).toNat]?).bind fun x10=>some (.inl ((v5.set ((IntKind.i64.wrap (4 + (IntKind.i64.wrap (Int.tdiv v6 8))))).toNat (⟨UInt8.ofNat ((bitV .andNot .u8 ((x9.v.toNat:Int)) ((shlV .u8 1 ((IntKind.u64.wrap ((Int.tmod v6 8)))))))).toNat⟩:Bt)),(IntKind.i64.wrap (v6 + 1)))) else none else none else some (.inr v5)
theorem g107l1_b_eq  (v2:Int) (v3:Int) (v4:Bool) (v5:List Bt) (v6:Int):X g107_S g107l1_cb (keepEnv [1,2,3,9,10] [(1,(.int .i64 v2)),(2,(.int .i64 v3)),(3,(.bool v4)),(9,(.hs 0 0 v5.length false)),(10,(.int .i64 v6))]) [(.live 1 (rows v5))] = (spec_l13Mark_l1_b v2 v3 v4 v5 v6).map (Sum.elim (fun s=>(TX.nrm,[(1,(.int .i64 v2)),(2,(.int .i64 v3)),(3,(.bool v4)),(9,(.hs 0 0 s.1.length false)),(10,(.int .i64 s.2))],[(.live 1 (rows s.1))])) g107l1_F):=by
  simp (maxSteps:=2000000) (maxDischargeDepth:=8) -implicitDefEqProofs [g107l1_cb,spec_l13Mark_l1_b] <;> (try simp only [map_to_bind,g107l1_F])
def spec_l13Mark_l1 (v2:Int) (v3:Int) (v4:Bool) (s:List Bt × Int):Option (List Bt):=loopO (fun s=>spec_l13Mark_l1_b v2 v3 v4 s.1 s.2) s
@[simp] theorem g107l1_eq (y0 y1 y2)(y3:List Bt)(y4){n1:Nat}(h1:n1 = y3.length):X g107_S g107l1_c [(1,(.int .i64 y0)),(2,(.int .i64 y1)),(3,(.bool y2)),(9,(.hs 0 0 n1 false)),(10,(.int .i64 y4))] [(.live 1 (rows y3))] = (spec_l13Mark_l1 y0 y1 y2 (y3,y4)).map g107l1_F:=by
  subst h1
  exact loop_X _ _ _ _ (by intro r; first | (simp; done) | (rcases r with r | r <;> simp; done) | (rcases r with r | r | r <;> simp; done) | (rcases r with r | r | r | r <;> simp)) (fun s=>g107l1_b_eq  y0 y1 y2 s.1 s.2) (y3,y4)
def spec_l13Mark (a_area:Str) (a_at:Int) (a_n:Int) (a_set:Bool):Option (Str):=(bytL a_area).bind fun l1=>(spec_l13Mark_l1 a_at a_n a_set ((l1,a_at))).bind fun r11=>some ((r11.map Bt.v))
@[simp] def g107_O:Str → TV × List Blk:=fun r=>((.str r),[])
def g107_E (a:Str × Int × Int × Bool):List TV:=[(.str a.1),(.int .i64 a.2.1),(.int .i64 a.2.2.1),(.bool a.2.2.2)]
theorem g107_run (a_area:Str) (a_at:Int) (a_n:Int) (a_set:Bool) :callFn (X g107_S) g107_tf (g107_E (a_area,a_at,a_n,a_set)) [] = (spec_l13Mark a_area a_at a_n a_set).map g107_O:=by
  rw [callFn_eq]
  simp (maxSteps:=2000000) (maxDischargeDepth:=8) -implicitDefEqProofs [g107_tf,spec_l13Mark,g107_E] <;> (try simp only [map_to_bind,g107_O])
def g107_r:Rule:=RlO g107_E (fun a=>spec_l13Mark a.1 a.2.1 a.2.2.1 a.2.2.2) g107_O
theorem g107_ok:RuleOk Tryz.prog 181 g107_r:=ok_rlo (S:=g107_S) (tf:=g107_tf) (SysOk.on trivial trivial) (trE_ok (ks:=[[1,2,3,9,10]]) Tryz.func181 (by kernel_rfl)) fun a=>g107_run a.1 a.2.1 a.2.2.1 a.2.2.2
@[simp] theorem g107_app (y0 y1 y2 y3):g107_r [(.str y0),(.int .i64 y1),(.int .i64 y2),(.bool y3)] = (spec_l13Mark y0 y1 y2 y3).map g107_O :=
  RlO_app (enc:=g107_E) (by intro a b h; simp [g107_E,Prod.ext_iff] at h ⊢; simp [h]) (y0,y1,y2,y3)
/-! spec.l11Merge -/
def g85p3_c:TC:=(.seq (.ops [mo 71 5,mo 72 0,mo 73 6,ia 74 2 72 73,ln 75 2 74,oo 76 (.bslice [(.int .i64 0),(.str [])] 1 [(0,(.t 75))]),oo 77 (.append 125 2 24 (.t 71) (.t 76)),mo 5 77]) (.trim [0,1,5,6,7] (.after (.ops [mo 78 6,bn 79 .add (.t 78) (ki 1),mo 6 79]) ⟨[(0,0),(1,0),(5,1),(6,0),(7,0)],[(2,1)],0⟩)))
def g85p5_c:TC:=(.seq (.ops [mo 38 5,mo 39 1,mo 40 7,ia 41 2 39 40,ln 42 2 41,oo 43 (.bslice [(.int .i64 0),(.str [])] 1 [(0,(.t 42))]),oo 44 (.append 125 2 24 (.t 38) (.t 43)),mo 5 44]) (.trim [0,1,5,6,7] (.after (.ops [mo 45 7,bn 46 .add (.t 45) (ki 1),mo 7 46]) ⟨[(0,0),(1,0),(5,1),(6,0),(7,0)],[(2,1)],0⟩)))
def g85p4_c:TC:=(.seq (.seq (.draw [([],mo 19 6),([],mo 20 0),([1],le 21 20),([0,1,2],bn 22 .lss (.t 19) (.t 21)),([0,1,2,3],mo 23 22),([0,1,2,3,4],⟨(some 24),(some (23,true)),(.mv (.t 0))⟩),([0,1,2,3,4],⟨(some 25),(some (23,true)),(.mv (.t 6))⟩),([0,1,2,3,4,5,6],⟨(some 26),(some (23,true)),(.iaddr 2 (.t 24) (.t 25))⟩),([0,1,2,3,4,5,6,7],⟨(some 27),(some (23,true)),(.faddr 0 (.t 26))⟩),([0,1,2,3,4,5,6,7,8],⟨(some 28),(some (23,true)),(.load none (.t 27))⟩),([0,1,2,3,4],⟨(some 29),(some (23,true)),(.mv (.t 1))⟩),([0,1,2,3,4],⟨(some 30),(some (23,true)),(.mv (.t 7))⟩),([0,1,2,3,4,10,11],⟨(some 31),(some (23,true)),(.iaddr 2 (.t 29) (.t 30))⟩),([0,1,2,3,4,10,11,12],⟨(some 32),(some (23,true)),(.faddr 0 (.t 31))⟩),([0,1,2,3,4,10,11,12,13],⟨(some 33),(some (23,true)),(.load none (.t 32))⟩)] [⟨(some 34),(some (23,true)),(.bin .num .eql (.t 28) (.t 33))⟩,pk 35 (.t 23) (.t 34) (kb false)]) (.trim [0,1,5,6,7,35] (.cond (.t 35) (.after (.ops [mo 36 6,bn 37 .add (.t 36) (ki 1),mo 6 37]) ⟨[(0,0),(1,0),(5,1),(6,0),(7,0)],[(0,1)],0⟩) (.keep ⟨[(0,0),(1,0),(5,1),(6,0),(7,0)],[(0,1)],0⟩ .skip)))) (.trim [0,1,5,6,7] g85p5_c))
def g85p2_c:TC:=(.block 1 (.block 2 (.seq (.draw [([],mo 48 7),([],mo 49 1),([1],le 50 49),([0,1,2],bn 51 .eql (.t 48) (.t 50)),([0,1,2,3],mo 52 51),([0,1,2,3,4],⟨(some 53),(some (52,false)),(.mv (.t 6))⟩),([0,1,2,3,4],⟨(some 54),(some (52,false)),(.mv (.t 0))⟩),([0,1,2,3,4,6],⟨(some 55),(some (52,false)),(.len false (.t 54))⟩),([0,1,2,3,4,5,6,7],⟨(some 56),(some (52,false)),(.bin .num .lss (.t 53) (.t 55))⟩),([0,1,2,3,4,5,6,7,8],⟨(some 57),(some (52,false)),(.mv (.t 56))⟩),([0,1,2,3,4,5,6,7,8,9],⟨(some 58),(some (57,true)),(.mv (.t 0))⟩),([0,1,2,3,4,5,6,7,8,9],⟨(some 59),(some (57,true)),(.mv (.t 6))⟩),([0,1,2,3,4,5,6,7,8,9,10,11],⟨(some 60),(some (57,true)),(.iaddr 2 (.t 58) (.t 59))⟩),([0,1,2,3,4,5,6,7,8,9,10,11,12],⟨(some 61),(some (57,true)),(.faddr 0 (.t 60))⟩),([0,1,2,3,4,5,6,7,8,9,10,11,12,13],⟨(some 62),(some (57,true)),(.load none (.t 61))⟩),([0,1,2,3,4,5,6,7,8,9],⟨(some 63),(some (57,true)),(.mv (.t 1))⟩),([0,1,2,3,4,5,6,7,8,9],⟨(some 64),(some (57,true)),(.mv (.t 7))⟩),([0,1,2,3,4,5,6,7,8,9,15,16],⟨(some 65),(some (57,true)),(.iaddr 2 (.t 63) (.t 64))⟩),([0,1,2,3,4,5,6,7,8,9,15,16,17],⟨(some 66),(some (57,true)),(.faddr 0 (.t 65))⟩),([0,1,2,3,4,5,6,7,8,9,15,16,17,18],⟨(some 67),(some (57,true)),(.load none (.t 66))⟩)] [⟨(some 68),(some (57,true)),(.bin .num .lss (.t 62) (.t 67))⟩,⟨(some 69),(some (52,false)),(.pick (.t 57) (.t 68) (kb false))⟩,pk 70 (.t 52) (kb true) (.t 69),mo 47 70]) (.trim [0,1,5,6,7,47] (.cond (.t 47) (.keep ⟨[(0,0),(1,0),(5,1),(6,0),(7,0)],[(0,1)],0⟩ g85p3_c) (.keep ⟨[(0,0),(1,0),(5,1),(6,0),(7,0)],[(0,1)],0⟩ g85p4_c))))))
def g85l1_cb:TC:=(.seq (.seq (.ops [mo 9 6,mo 10 0,le 11 10,bn 12 .lss (.t 9) (.t 11),mo 13 12,⟨(some 14),(some (13,false)),(.mv (.t 7))⟩,⟨(some 15),(some (13,false)),(.mv (.t 1))⟩,⟨(some 16),(some (13,false)),(.len false (.t 15))⟩,⟨(some 17),(some (13,false)),(.bin .num .lss (.t 14) (.t 16))⟩,pk 18 (.t 13) (kb true) (.t 17)]) (.trim [0,1,5,6,7,18] (.cond (.t 18) (.keep ⟨[(0,0),(1,0),(5,1),(6,0),(7,0)],[(0,1)],0⟩ .skip) (.keep ⟨[(5,1)],[(0,1)],0⟩ (.exit 0))))) (.trim [0,1,5,6,7] g85p2_c))
def g85l1_c:TC:=.loop [0,1,5,6,7] g85l1_cb
def g85_tf:TFn:=⟨(.seq (.ops [oo 4 (.mv (.c .nils))]) (.trim [0,1] (.seq (.ops [oo 8 (.bslice [(.int .i64 0),(.str [])] 0 []),mo 5 8]) (.trim [0,1,5] (.seq (.ops [oo 6 (.mv (ki 0))]) (.trim [0,1,5,6] (.seq (.ops [oo 7 (.mv (ki 0))]) (.trim [0,1,5,6,7] (.seq (.block 0 (.keep ⟨[(0,0),(1,0),(5,1),(6,0),(7,0)],[(1000,1)],0⟩ g85l1_c)) (.trim [5] (.seq (.ops [mo 80 5,mo 4 80]) (.keep ⟨[(4,1)],[(0,1)],0⟩ .ret)))))))))))),[.t 4]⟩
abbrev g85_S:=Sys.on [] []
@[reducible,simp] def g85p3_F:((List (Int × Str)) × (List (Int × Str)) × (List (Int × Str)) × Int × Int) → Out:=(fun t=>(.nrm,[(0,(.vs (rows t.1))),(1,(.vs (rows t.2.1))),(5,(ow 0 t.2.2.1.length)),(6,(.int .i64 t.2.2.2.1)),(7,(.int .i64 t.2.2.2.2))],[(ob 2 t.2.2.1)]))
def spec_l11Merge_p3 (v13:List (Int × Str)) (v14:List (Int × Str)) (v15:List (Int × Str)) (v16:Int) (v17:Int):Option ((List (Int × Str)) × (List (Int × Str)) × (List (Int × Str)) × Int × Int):=if 0 ≤ v16 then (v13[(v16).toNat]?).bind fun x18=>(appL 24 v15 ((lit [(x18.1,x18.2)]:List (Int × Str)))).bind fun l19=>some ((v13,v14,l19,(IntKind.i64.wrap (v16 + 1)),v17)) else none
@[simp] theorem g85p3_eq (y0 y1)(y2:List (Int × Str))(y3 y4){n1:Nat}(h1:n1 = y2.length):X g85_S g85p3_c [(0,(.vs (rows y0))),(1,(.vs (rows y1))),(5,(ow 0 n1)),(6,(.int .i64 y3)),(7,(.int .i64 y4))] [(ob 2 y2)] = (spec_l11Merge_p3 y0 y1 y2 y3 y4).map g85p3_F:=by
  subst h1
  simp (maxSteps:=2000000) (maxDischargeDepth:=8) -implicitDefEqProofs [g85p3_c,spec_l11Merge_p3,bslV_lit (α:=Int × Str) (zs:=[(.int .i64 0),(.str [])])] <;> (try simp only [map_to_bind,g85p3_F])
@[reducible,simp] def g85p5_F:((List (Int × Str)) × (List (Int × Str)) × (List (Int × Str)) × Int × Int) → Out:=(fun t=>(.nrm,[(0,(.vs (rows t.1))),(1,(.vs (rows t.2.1))),(5,(ow 0 t.2.2.1.length)),(6,(.int .i64 t.2.2.2.1)),(7,(.int .i64 t.2.2.2.2))],[(ob 2 t.2.2.1)]))
def spec_l11Merge_p5 (v29:List (Int × Str)) (v30:List (Int × Str)) (v31:List (Int × Str)) (v32:Int) (v33:Int):Option ((List (Int × Str)) × (List (Int × Str)) × (List (Int × Str)) × Int × Int):=if 0 ≤ v33 then (v30[(v33).toNat]?).bind fun x34=>(appL 24 v31 ((lit [(x34.1,x34.2)]:List (Int × Str)))).bind fun l35=>some ((v29,v30,l35,v32,(IntKind.i64.wrap (v33 + 1)))) else none
@[simp] theorem g85p5_eq (y0 y1)(y2:List (Int × Str))(y3 y4){n1:Nat}(h1:n1 = y2.length):X g85_S g85p5_c [(0,(.vs (rows y0))),(1,(.vs (rows y1))),(5,(ow 0 n1)),(6,(.int .i64 y3)),(7,(.int .i64 y4))] [(ob 2 y2)] = (spec_l11Merge_p5 y0 y1 y2 y3 y4).map g85p5_F:=by
  subst h1
  simp (maxSteps:=2000000) (maxDischargeDepth:=8) -implicitDefEqProofs [g85p5_c,spec_l11Merge_p5,bslV_lit (α:=Int × Str) (zs:=[(.int .i64 0),(.str [])])] <;> (try simp only [map_to_bind,g85p5_F])
@[reducible,simp] def g85p4_F:((List (Int × Str)) × (List (Int × Str)) × (List (Int × Str)) × Int × Int) → Out:=(fun t=>(.nrm,[(0,(.vs (rows t.1))),(1,(.vs (rows t.2.1))),(5,(ow 0 t.2.2.1.length)),(6,(.int .i64 t.2.2.2.1)),(7,(.int .i64 t.2.2.2.2))],[(ob 2 t.2.2.1)]))
def spec_l11Merge_p4 (v22:List (Int × Str)) (v23:List (Int × Str)) (v24:List (Int × Str)) (v25:Int) (v26:Int):Option ((List (Int × Str)) × (List (Int × Str)) × (List (Int × Str)) × Int × Int):=if v25 < (v22.length:Int) then if 0 ≤ v25 then (v22[(v25).toNat]?).bind fun x27=>if 0 ≤ v26 then (v23[(v26).toNat]?).bind fun x28=>if x27.1 = x28.1 then (spec_l11Merge_p5 v22 v23 v24 ((IntKind.i64.wrap (v25 + 1))) v26).bind fun r36=>some ((r36.1,r36.2.1,r36.2.2.1,r36.2.2.2.1,r36.2.2.2.2)) else (spec_l11Merge_p5 v22 v23 v24 v25 v26).bind fun r37=>some ((r37.1,r37.2.1,r37.2.2.1,r37.2.2.2.1,r37.2.2.2.2)) else none else none else (spec_l11Merge_p5 v22 v23 v24 v25 v26).bind fun r38=>some ((r38.1,r38.2.1,r38.2.2.1,r38.2.2.2.1,r38.2.2.2.2))
@[simp] theorem g85p4_eq (y0 y1)(y2:List (Int × Str))(y3 y4){n1:Nat}(h1:n1 = y2.length):X g85_S g85p4_c [(0,(.vs (rows y0))),(1,(.vs (rows y1))),(5,(ow 0 n1)),(6,(.int .i64 y3)),(7,(.int .i64 y4))] [(ob 2 y2)] = (spec_l11Merge_p4 y0 y1 y2 y3 y4).map g85p4_F:=by
  subst h1
  simp (maxSteps:=2000000) (maxDischargeDepth:=8) -implicitDefEqProofs [g85p4_c,spec_l11Merge_p4,bslV_lit (α:=Int × Str) (zs:=[(.int .i64 0),(.str [])])] <;> (try simp only [map_to_bind,g85p4_F])
@[reducible,simp] def g85p2_F:((List (Int × Str)) × (List (Int × Str)) × (List (Int × Str)) × Int × Int) → Out:=(fun t=>(.nrm,[(0,(.vs (rows t.1))),(1,(.vs (rows t.2.1))),(5,(ow 0 t.2.2.1.length)),(6,(.int .i64 t.2.2.2.1)),(7,(.int .i64 t.2.2.2.2))],[(ob 2 t.2.2.1)]))
def spec_l11Merge_p2 (v6:List (Int × Str)) (v7:List (Int × Str)) (v8:List (Int × Str)) (v9:Int) (v10:Int):Option ((List (Int × Str)) × (List (Int × Str)) × (List (Int × Str)) × Int × Int):=if v10 = (v7.length:Int) then (spec_l11Merge_p3 v6 v7 v8 v9 v10).bind fun r20=>some ((r20.1,r20.2.1,r20.2.2.1,r20.2.2.2.1,r20.2.2.2.2)) else if v9 < (v6.length:Int) then if 0 ≤ v9 then (v6[(v9).toNat]?).bind fun x11=>if 0 ≤ v10 then (v7[(v10).toNat]?).bind fun x12=>if x11.1 < x12.1 then (spec_l11Merge_p3 v6 v7 v8 v9 v10).bind fun r21=>some ((r21.1,r21.2.1,r21.2.2.1,r21.2.2.2.1,r21.2.2.2.2)) else (spec_l11Merge_p4 v6 v7 v8 v9 v10).bind fun r39=>some ((r39.1,r39.2.1,r39.2.2.1,r39.2.2.2.1,r39.2.2.2.2)) else none else none else (spec_l11Merge_p4 v6 v7 v8 v9 v10).bind fun r40=>some ((r40.1,r40.2.1,r40.2.2.1,r40.2.2.2.1,r40.2.2.2.2))
@[simp] theorem g85p2_eq (y0 y1)(y2:List (Int × Str))(y3 y4){n1:Nat}(h1:n1 = y2.length):X g85_S g85p2_c [(0,(.vs (rows y0))),(1,(.vs (rows y1))),(5,(ow 0 n1)),(6,(.int .i64 y3)),(7,(.int .i64 y4))] [(ob 2 y2)] = (spec_l11Merge_p2 y0 y1 y2 y3 y4).map g85p2_F:=by
  subst h1
  simp (maxSteps:=2000000) (maxDischargeDepth:=8) -implicitDefEqProofs [g85p2_c,spec_l11Merge_p2,bslV_lit (α:=Int × Str) (zs:=[(.int .i64 0),(.str [])])] <;> (try simp only [map_to_bind,g85p2_F])
@[reducible,simp] def g85l1_F:((List (Int × Str))) → Out:=(fun t=>(.ext 0,[(5,(ow 0 t.length))],[(ob 2 t)]))
def spec_l11Merge_l1_b (v1:List (Int × Str)) (v2:List (Int × Str)) (v3:List (Int × Str)) (v4:Int) (v5:Int):Option (((List (Int × Str)) × (List (Int × Str)) × (List (Int × Str)) × Int × Int) ⊕ ((List (Int × Str)))):=if v4 < (v1.length:Int) then (spec_l11Merge_p2 v1 v2 v3 v4 v5).bind fun r41=>some (.inl (r41.1,r41.2.1,r41.2.2.1,r41.2.2.2.1,r41.2.2.2.2)) else if v5 < (v2.length:Int) then (spec_l11Merge_p2 v1 v2 v3 v4 v5).bind fun r42=>some (.inl (r42.1,r42.2.1,r42.2.2.1,r42.2.2.2.1,r42.2.2.2.2)) else some (.inr v3)
theorem g85l1_b_eq  (v1:List (Int × Str)) (v2:List (Int × Str)) (v3:List (Int × Str)) (v4:Int) (v5:Int):X g85_S g85l1_cb (keepEnv [0,1,5,6,7] [(0,(.vs (rows v1))),(1,(.vs (rows v2))),(5,(ow 0 v3.length)),(6,(.int .i64 v4)),(7,(.int .i64 v5))]) [(ob 2 v3)] = (spec_l11Merge_l1_b v1 v2 v3 v4 v5).map (Sum.elim (fun s=>(TX.nrm,[(0,(.vs (rows s.1))),(1,(.vs (rows s.2.1))),(5,(ow 0 s.2.2.1.length)),(6,(.int .i64 s.2.2.2.1)),(7,(.int .i64 s.2.2.2.2))],[(ob 2 s.2.2.1)])) g85l1_F):=by
  simp (maxSteps:=2000000) (maxDischargeDepth:=8) -implicitDefEqProofs [g85l1_cb,spec_l11Merge_l1_b,bslV_lit (α:=Int × Str) (zs:=[(.int .i64 0),(.str [])])] <;> (try simp only [map_to_bind,g85l1_F])
def spec_l11Merge_l1  (s:(List (Int × Str)) × (List (Int × Str)) × (List (Int × Str)) × Int × Int):Option ((List (Int × Str))):=loopO (fun s=>spec_l11Merge_l1_b  s.1 s.2.1 s.2.2.1 s.2.2.2.1 s.2.2.2.2) s
@[simp] theorem g85l1_eq (y0 y1)(y2:List (Int × Str))(y3 y4){n1:Nat}(h1:n1 = y2.length):X g85_S g85l1_c [(0,(.vs (rows y0))),(1,(.vs (rows y1))),(5,(ow 0 n1)),(6,(.int .i64 y3)),(7,(.int .i64 y4))] [(ob 2 y2)] = (spec_l11Merge_l1  (y0,y1,y2,y3,y4)).map g85l1_F:=by
  subst h1
  exact loop_X _ _ _ _ (by intro r; first | (simp; done) | (rcases r with r | r <;> simp; done) | (rcases r with r | r | r <;> simp; done) | (rcases r with r | r | r | r <;> simp)) (fun s=>g85l1_b_eq   s.1 s.2.1 s.2.2.1 s.2.2.2.1 s.2.2.2.2) (y0,y1,y2,y3,y4)
@[simp] theorem g85l1_eq_2 (y0 y1 y2 y3):X g85_S g85l1_c [(0,(.vs (rows y0))),(1,(.vs (rows y1))),(5,.es),(6,(.int .i64 y2)),(7,(.int .i64 y3))] [.dead] = (spec_l11Merge_l1  (y0,y1,([]:List (Int × Str)),y2,y3)).map g85l1_F :=
  g85l1_eq  y0 y1 ([]:List (Int × Str)) y2 y3 rfl
def spec_l11Merge (a_a:List (Int × Str)) (a_b:List (Int × Str)):Option ((List (Int × Str))):=(spec_l11Merge_l1 ((a_a,a_b,([]:List (Int × Str)),0,0))).bind fun r43=>some r43
@[simp] def g85_O:((List (Int × Str))) → TV × List Blk:=fun r=>((ow 0 r.length),[(ob 2 r)])
def g85_E (a:(List (Int × Str)) × (List (Int × Str))):List TV:=[(.vs (rows a.1)),(.vs (rows a.2))]
theorem g85_run (a_a:List (Int × Str)) (a_b:List (Int × Str)) :callFn (X g85_S) g85_tf (g85_E (a_a,a_b)) [] = (spec_l11Merge a_a a_b).map g85_O:=by
  rw [callFn_eq]
  simp (maxSteps:=2000000) (maxDischargeDepth:=8) -implicitDefEqProofs [g85_tf,spec_l11Merge,g85_E,bslV_lit (α:=Int × Str) (zs:=[(.int .i64 0),(.str [])])] <;> (try simp only [map_to_bind,g85_O])
def g85_r:Rule:=RlO g85_E (fun a=>spec_l11Merge a.1 a.2) g85_O
theorem g85_ok:RuleOk Tryz.prog 159 g85_r:=ok_rlo (S:=g85_S) (tf:=g85_tf) (SysOk.on trivial trivial) (trE_ok (ks:=[[0,1,5,6,7],[20],[15]]) Tryz.func159 (by kernel_rfl)) fun a=>g85_run a.1 a.2
@[simp] theorem g85_app (y0 y1):g85_r [(.vs (rows y0)),(.vs (rows y1))] = (spec_l11Merge y0 y1).map g85_O :=
  RlO_app (enc:=g85_E) (by intro a b h; simp [g85_E,Prod.ext_iff] at h ⊢; simp [h]) (y0,y1)
end
end Go.Proofs.TM
