/- Functions of the program, as functions of their data: written by program. -/
import Derived.Test.YtakhpblefnpjcaaDoorTRec
import Derived.Test.YtakhpblefnpjcaaDoorTShelf
import Derived.Test.YtakhpblefnpjcaaDoorTLib
import Derived.Test.YtakhpblefnpjcaaDoorProg
import Derived.KernelRfl
namespace Go.Proofs.TM
open Go Go.Proofs
set_option linter.unusedVariables false
set_option linter.unusedSimpArgs false
set_option maxHeartbeats 1000000
attribute [-simp] Option.map_bind strV_some
attribute [simp] guardOn_bool sA_bslice Function.comp_def
noncomputable section
abbrev K0:=Int×List Int×List Int×List Int×List Int×List (List Int)
/-! laws.szInt64S -/
def g28_tf:TFn:=⟨(sq [mk 4 (ki 0)] [0,1] (sq [mo 5 1,mo 6 0,le 7 6,bn 8 .sub (.t 5) (.t 7),mo 1 8] [1] (.seq (sq [mo 9 1,bn 10 .lss (.t 9) (ki 0)] [1,10] (.cond (.t 10) (.seq (.ops [mk 4 (ki (-1))]) (.keep (kp [(4,0)] [] 0) .ret)) .skip)) (.trim [1] (.seq (.ops [mo 11 1,mo 4 11]) (.keep (kp [(4,0)] [] 0) .ret)))))),[.t 4]⟩
abbrev g28_S:=Sys.on [] []
def laws_szInt64S (a_a:List Int) (a_left:Int):Option (Int):=if (IntKind.i64.wrap (a_left - ((a_a.length:Int)))) < 0 then some ((-1)) else some ((IntKind.i64.wrap (a_left - ((a_a.length:Int)))))
@[simp] def g28_O:Int→TV×List Blk:=fun r=>((.int .i64 r),[])
def g28_E (a:List Int×Int):List TV:=[(.vs (rows a.1)),(.int .i64 a.2)]
theorem g28_run (a_a:List Int) (a_left:Int) :callFn (X g28_S) g28_tf (g28_E (a_a,a_left)) []=(laws_szInt64S a_a a_left).map g28_O:=by
  rw [callFn_eq]
  simp (maxSteps:=2000000) (maxDischargeDepth:=8) -implicitDefEqProofs [g28_tf,laws_szInt64S,g28_E] <;> (try simp only [map_to_bind,some_elim,g28_O])
def g28_r:Rule:=RlO g28_E (fun a=>laws_szInt64S a.1 a.2) g28_O
theorem g28_ok:RuleOk Tryd.prog 33 g28_r:=ok_rlo (S:=g28_S) (tf:=g28_tf) (SysOk.on trivial trivial) (trE_ok (ks:=[]) Tryd.func33 (by kernel_rfl)) fun a=>g28_run a.1 a.2
@[simp] theorem g28_app (y0 y1):g28_r [(.vs (rows y0)),(.int .i64 y1)]=(laws_szInt64S y0 y1).map g28_O :=
  RlO_app (enc:=g28_E) (by intro a b h;simp [g28_E,Prod.ext_iff] at h ⊢;simp [h]) (y0,y1)
/-! laws.szPoint -/
def g36_tf:TFn:=⟨(sq [bx 2 0,mk 4 (ki 0)] [1,2] (sq [fa 5 0 2,ld 6 5,mo 7 1,ca 8 33 [.t 6,.t 7],mo 1 8] [1] (.seq (sq [mo 9 1,bn 10 .lss (.t 9) (ki 0)] [1,10] (.cond (.t 10) (.seq (.ops [mk 4 (ki (-1))]) (.keep (kp [(4,0)] [] 0) .ret)) .skip)) (.trim [1] (.seq (.ops [mo 11 1,mo 4 11]) (.keep (kp [(4,0)] [] 0) .ret)))))),[.t 4]⟩
abbrev g36_S:=Sys.on [(33,g28_r)] []
def laws_szPoint (a_a:List Int) (a_left:Int):Option (Int):=(laws_szInt64S a_a a_left).bind fun r1=>if r1 < 0 then some ((-1)) else some r1
@[simp] def g36_O:Int→TV×List Blk:=fun r=>((.int .i64 r),[])
def g36_E (a:List Int×Int):List TV:=[(.agg [(.vs (rows a.1))]),(.int .i64 a.2)]
theorem g36_run (a_a:List Int) (a_left:Int) :callFn (X g36_S) g36_tf (g36_E (a_a,a_left)) []=(laws_szPoint a_a a_left).map g36_O:=by
  rw [callFn_eq]
  simp (maxSteps:=2000000) (maxDischargeDepth:=8) -implicitDefEqProofs [g36_tf,laws_szPoint,g36_E] <;> (try simp only [map_to_bind,some_elim,g36_O])
def g36_r:Rule:=RlO g36_E (fun a=>laws_szPoint a.1 a.2) g36_O
theorem g36_ok:RuleOk Tryd.prog 74 g36_r:=ok_rlo (S:=g36_S) (tf:=g36_tf) (SysOk.on ⟨g28_ok,trivial⟩ trivial) (trE_ok (ks:=[]) Tryd.func74 (by kernel_rfl)) fun a=>g36_run a.1 a.2
@[simp] theorem g36_app (y0 y1):g36_r [(.agg [(.vs (rows y0))]),(.int .i64 y1)]=(laws_szPoint y0 y1).map g36_O :=
  RlO_app (enc:=g36_E) (by intro a b h;simp [g36_E,Prod.ext_iff] at h ⊢;simp [h]) (y0,y1)
/-! laws.szPointS -/
def g29l1_cb:TC:=(.seq (sq [mo 12 5,mo 13 0,le 14 13,bn 15 .lss (.t 12) (.t 14)] [0,1,5,15] (.cond (.t 15) .skip (.keep (kp [(1,0)] [] 0) (.exit 0)))) (.trim [0,1,5] (.seq (.block 1 (sq [mo 18 0,mo 19 5,ia 20 1 18 19,ln 21 1 20,mo 22 1,ca 23 74 [.t 21,.t 22],mo 1 23] [0,1,5] (sq [mo 24 1,bn 25 .lss (.t 24) (ki 0)] [0,1,5,25] (.cond (.t 25) (.seq (.ops [mk 4 (ki (-1))]) (.keep (kp [(4,0)] [] 0) .ret)) .skip)))) (.trim [0,1,5] (.after (.ops [mo 16 5,bn 17 .add (.t 16) (ki 1),mo 5 17]) (kp [(0,0),(1,0),(5,0)] [] 0))))))
def g29l1_c:TC:=.loop [0,1,5] g29l1_cb
def g29_tf:TFn:=⟨(sq [mk 4 (ki 0)] [0,1] (sq [mo 6 1,mo 7 0,le 8 7,bn 9 .sub (.t 6) (.t 8),mo 1 9] [0,1] (.seq (sq [mo 10 1,bn 11 .lss (.t 10) (ki 0)] [0,1,11] (.cond (.t 11) (.seq (.ops [mk 4 (ki (-1))]) (.keep (kp [(4,0)] [] 0) .ret)) .skip)) (.trim [0,1] (.seq (sq [mk 5 (ki 0)] [0,1,5] (.block 0 (.keep (kp [(0,0),(1,0),(5,0)] [] 0) g29l1_c))) (.trim [1] (.seq (.ops [mo 26 1,mo 4 26]) (.keep (kp [(4,0)] [] 0) .ret)))))))),[.t 4]⟩
abbrev g29_S:=Sys.on [(74,g36_r)] []
@[reducible,simp] def g29l1_F:((Int) ⊕ (Int))→Out:=(Sum.elim (fun t=>(.ext 0,[(1,(.int .i64 t))],[])) (fun t=>(.ret,[(4,(.int .i64 t))],[])))
def laws_szPointS_l1_b (v1:List (List Int)) (v2:Int) (v3:Int):Option ((Int×Int) ⊕ ((Int) ⊕ (Int))):=if v3 < (v1.length:Int) then if 0≤v3 then (v1[(v3).toNat]?).bind fun x4=>(laws_szPoint x4 v2).bind fun r5=>if r5 < 0 then some (.inr (.inr ((-1)))) else some (.inl (r5,(IntKind.i64.wrap (v3+1)))) else none else some (.inr (.inl v2))
theorem g29l1_b_eq  (v1:List (List Int)) (v2:Int) (v3:Int):X g29_S g29l1_cb (keepEnv [0,1,5] [(0,(.vs (rows v1))),(1,(.int .i64 v2)),(5,(.int .i64 v3))]) []=(laws_szPointS_l1_b v1 v2 v3).map (Sum.elim (fun s=>(TX.nrm,[(0,(.vs (rows v1))),(1,(.int .i64 s.1)),(5,(.int .i64 s.2))],[])) g29l1_F):=by
  simp (maxSteps:=2000000) (maxDischargeDepth:=8) -implicitDefEqProofs [g29l1_cb,laws_szPointS_l1_b] <;> (try simp only [map_to_bind,some_elim,g29l1_F])
def laws_szPointS_l1 (v1:List (List Int)) (s:Int×Int):Option ((Int) ⊕ (Int)):=loopO (fun s=>laws_szPointS_l1_b v1 s.1 s.2) s
@[simp] theorem g29l1_eq (y0 y1 y2):X g29_S g29l1_c [(0,(.vs (rows y0))),(1,(.int .i64 y1)),(5,(.int .i64 y2))] []=(laws_szPointS_l1 y0 (y1,y2)).map g29l1_F:=by
  exact loop_X _ _ _ _ (by intro r;first | (simp;done) | (rcases r with r | r <;> simp;done) | (rcases r with r | r | r <;> simp;done) | (rcases r with r | r | r | r <;> simp)) (fun s=>g29l1_b_eq  y0 s.1 s.2) (y1,y2)
def laws_szPointS (a_a:List (List Int)) (a_left:Int):Option (Int):=if (IntKind.i64.wrap (a_left - ((a_a.length:Int)))) < 0 then some ((-1)) else (laws_szPointS_l1 a_a (((IntKind.i64.wrap (a_left - ((a_a.length:Int)))),0))).bind fun r6=>Sum.elim (fun u7=>some u7) (fun u8=>some u8) r6
@[simp] def g29_O:Int→TV×List Blk:=fun r=>((.int .i64 r),[])
def g29_E (a:List (List Int)×Int):List TV:=[(.vs (rows a.1)),(.int .i64 a.2)]
theorem g29_run (a_a:List (List Int)) (a_left:Int) :callFn (X g29_S) g29_tf (g29_E (a_a,a_left)) []=(laws_szPointS a_a a_left).map g29_O:=by
  rw [callFn_eq]
  simp (maxSteps:=2000000) (maxDischargeDepth:=8) -implicitDefEqProofs [g29_tf,laws_szPointS,g29_E] <;> (try simp only [map_to_bind,some_elim,g29_O])
def g29_r:Rule:=RlO g29_E (fun a=>laws_szPointS a.1 a.2) g29_O
theorem g29_ok:RuleOk Tryd.prog 34 g29_r:=ok_rlo (S:=g29_S) (tf:=g29_tf) (SysOk.on ⟨g36_ok,trivial⟩ trivial) (trE_ok (ks:=[[0,1,5]]) Tryd.func34 (by kernel_rfl)) fun a=>g29_run a.1 a.2
@[simp] theorem g29_app (y0 y1):g29_r [(.vs (rows y0)),(.int .i64 y1)]=(laws_szPointS y0 y1).map g29_O :=
  RlO_app (enc:=g29_E) (by intro a b h;simp [g29_E,Prod.ext_iff] at h ⊢;simp [h]) (y0,y1)
/-! laws.szSelection -/
def g20_tf:TFn:=⟨(sq [bx 2 0,mk 4 (ki 0)] [1,2] (sq [fa 5 1 2,ld 6 5,mo 7 1,ca 8 33 [.t 6,.t 7],mo 1 8] [1,2] (.seq (sq [mo 9 1,bn 10 .lss (.t 9) (ki 0)] [1,2,10] (.cond (.t 10) (.seq (.ops [mk 4 (ki (-1))]) (.keep (kp [(4,0)] [] 0) .ret)) .skip)) (.trim [1,2] (sq [fa 11 2 2,ld 12 11,mo 13 1,ca 14 33 [.t 12,.t 13],mo 1 14] [1,2] (.seq (sq [mo 15 1,bn 16 .lss (.t 15) (ki 0)] [1,2,16] (.cond (.t 16) (.seq (.ops [mk 4 (ki (-1))]) (.keep (kp [(4,0)] [] 0) .ret)) .skip)) (.trim [1,2] (sq [fa 17 3 2,ld 18 17,mo 19 1,ca 20 33 [.t 18,.t 19],mo 1 20] [1,2] (.seq (sq [mo 21 1,bn 22 .lss (.t 21) (ki 0)] [1,2,22] (.cond (.t 22) (.seq (.ops [mk 4 (ki (-1))]) (.keep (kp [(4,0)] [] 0) .ret)) .skip)) (.trim [1,2] (sq [fa 23 4 2,ld 24 23,mo 25 1,ca 26 33 [.t 24,.t 25],mo 1 26] [1,2] (.seq (sq [mo 27 1,bn 28 .lss (.t 27) (ki 0)] [1,2,28] (.cond (.t 28) (.seq (.ops [mk 4 (ki (-1))]) (.keep (kp [(4,0)] [] 0) .ret)) .skip)) (.trim [1,2] (sq [fa 29 5 2,ld 30 29,mo 31 1,ca 32 34 [.t 30,.t 31],mo 1 32] [1] (.seq (sq [mo 33 1,bn 34 .lss (.t 33) (ki 0)] [1,34] (.cond (.t 34) (.seq (.ops [mk 4 (ki (-1))]) (.keep (kp [(4,0)] [] 0) .ret)) .skip)) (.trim [1] (.seq (.ops [mo 35 1,mo 4 35]) (.keep (kp [(4,0)] [] 0) .ret)))))))))))))))))),[.t 4]⟩
abbrev g20_S:=Sys.on [(33,g28_r),(34,g29_r)] []
def laws_szSelection (a_a:K0) (a_left:Int):Option (Int):=(laws_szInt64S a_a.2.1 a_left).bind fun r1=>if r1 < 0 then some ((-1)) else (laws_szInt64S a_a.2.2.1 r1).bind fun r2=>if r2 < 0 then some ((-1)) else (laws_szInt64S a_a.2.2.2.1 r2).bind fun r3=>if r3 < 0 then some ((-1)) else (laws_szInt64S a_a.2.2.2.2.1 r3).bind fun r4=>if r4 < 0 then some ((-1)) else (laws_szPointS a_a.2.2.2.2.2 r4).bind fun r5=>if r5 < 0 then some ((-1)) else some r5
@[simp] def g20_O:Int→TV×List Blk:=fun r=>((.int .i64 r),[])
def g20_E (a:K0×Int):List TV:=[(.agg [(.int .i64 a.1.1),(.vs (rows a.1.2.1)),(.vs (rows a.1.2.2.1)),(.vs (rows a.1.2.2.2.1)),(.vs (rows a.1.2.2.2.2.1)),(.vs (rows a.1.2.2.2.2.2))]),(.int .i64 a.2)]
theorem g20_run (a_a:K0) (a_left:Int) :callFn (X g20_S) g20_tf (g20_E (a_a,a_left)) []=(laws_szSelection a_a a_left).map g20_O:=by
  rw [callFn_eq]
  simp (maxSteps:=2000000) (maxDischargeDepth:=8) -implicitDefEqProofs [g20_tf,laws_szSelection,g20_E] <;> (try simp only [map_to_bind,some_elim,g20_O])
def g20_r:Rule:=RlO g20_E (fun a=>laws_szSelection a.1 a.2) g20_O
theorem g20_ok:RuleOk Tryd.prog 8 g20_r:=ok_rlo (S:=g20_S) (tf:=g20_tf) (SysOk.on ⟨g28_ok,g29_ok,trivial⟩ trivial) (trE_ok (ks:=[]) Tryd.func8 (by kernel_rfl)) fun a=>g20_run a.1 a.2
@[simp] theorem g20_app (y0 y1 y2 y3 y4 y5 y6):g20_r [(.agg [(.int .i64 y0),(.vs (rows y1)),(.vs (rows y2)),(.vs (rows y3)),(.vs (rows y4)),(.vs (rows y5))]),(.int .i64 y6)]=(laws_szSelection ((y0,y1,y2,y3,y4,y5)) y6).map g20_O :=
  RlO_app (enc:=g20_E) (by intro a b h;simp [g20_E,Prod.ext_iff] at h ⊢;simp [h]) ((y0,y1,y2,y3,y4,y5),y6)
/-! laws.toInt64S -/
def g30l1_cb:TC:=(.seq (sq [mo 8 4,mo 9 0,le 10 9,bn 11 .lss (.t 8) (.t 10)] [0,3,4,11] (.cond (.t 11) .skip (.keep (kp [(3,1)] [(0,1)] 0) (.exit 0)))) (.trim [0,3,4] (.seq (.block 1 (.ops [mo 14 3,mo 15 4,mo 16 0,mo 17 4,ia 18 1 16 17,ld 19 18,ia 20 1 14 15,⟨none,none,(.store 1 (.t 20) (.t 19))⟩])) (.trim [0,3,4] (.after (.ops [mo 12 4,bn 13 .add (.t 12) (ki 1),mo 4 13]) (kp [(0,0),(3,1),(4,0)] [(0,1)] 0))))))
def g30l1_c:TC:=.loop [0,3,4] g30l1_cb
def g30_tf:TFn:=⟨(sq [mk 2 (.c .nils)] [0] (sq [mo 5 0,le 6 5,oo 7 (.mkslice 8 [(.int .i64 0)] (.t 6) (.t 6)),mo 3 7] [0,3] (.seq (sq [mk 4 (ki 0)] [0,3,4] (.block 0 (.keep (kp [(0,0),(3,1),(4,0)] [(0,1)] 0) g30l1_c))) (.trim [3] (.seq (.ops [mo 21 3,mo 2 21]) (.keep (kp [(2,1)] [(0,1)] 0) .ret)))))),[.t 2]⟩
abbrev g30_S:=Sys.on [] []
@[reducible,simp] def g30l1_F:(List Int)→Out:=(fun t=>(.ext 0,[(3,(ow 0 t.length))],[(ob 1 t)]))
def laws_toInt64S_l1_b (v2:List Int) (v3:List Int) (v4:Int):Option ((List Int×Int) ⊕ (List Int)):=if v4 < (v2.length:Int) then if 0≤v4 then (v2[(v4).toNat]?).bind fun x5=>if 0≤v4∧v4 < ((v3.length:Nat):Int) then (v3[(v4).toNat]?).bind fun x6=>some (.inl ((v3.set (v4).toNat x5),(IntKind.i64.wrap (v4+1)))) else none else none else some (.inr v3)
theorem g30l1_b_eq  (v2:List Int) (v3:List Int) (v4:Int):X g30_S g30l1_cb (keepEnv [0,3,4] [(0,(.vs (rows v2))),(3,(ow 0 v3.length)),(4,(.int .i64 v4))]) [(ob 1 v3)]=(laws_toInt64S_l1_b v2 v3 v4).map (Sum.elim (fun s=>(TX.nrm,[(0,(.vs (rows v2))),(3,(ow 0 s.1.length)),(4,(.int .i64 s.2))],[(ob 1 s.1)])) g30l1_F):=by
  simp (maxSteps:=2000000) (maxDischargeDepth:=8) -implicitDefEqProofs [g30l1_cb,laws_toInt64S_l1_b,mksliceV_typed (z:=(0:Int)) (zs:=[(.int .i64 0)]) rfl (by decide) (by decide)] <;> (try simp only [map_to_bind,some_elim,g30l1_F])
def laws_toInt64S_l1 (v2:List Int) (s:List Int×Int):Option (List Int):=loopO (fun s=>laws_toInt64S_l1_b v2 s.1 s.2) s
@[simp] theorem g30l1_eq (y0)(y1:List Int)(y2){n1:Nat}(h1:n1=y1.length):X g30_S g30l1_c [(0,(.vs (rows y0))),(3,(ow 0 n1)),(4,(.int .i64 y2))] [(ob 1 y1)]=(laws_toInt64S_l1 y0 (y1,y2)).map g30l1_F:=by
  subst h1
  exact loop_X _ _ _ _ (by intro r;first | (simp;done) | (rcases r with r | r <;> simp;done) | (rcases r with r | r | r <;> simp;done) | (rcases r with r | r | r | r <;> simp)) (fun s=>g30l1_b_eq  y0 s.1 s.2) (y1,y2)
def laws_toInt64S (a_a:List Int):Option (List Int):=(mkL 8 ((a_a.length:Int)) ((a_a.length:Int)) (0:Int)).bind fun l1=>(laws_toInt64S_l1 a_a ((l1,0))).bind fun r7=>some r7
@[simp] def g30_O:List Int→TV×List Blk:=fun r=>((ow 0 r.length),[(ob 1 r)])
def g30_E (a:List Int):List TV:=[(.vs (rows a))]
theorem g30_run (a_a:List Int) :callFn (X g30_S) g30_tf (g30_E a_a) []=(laws_toInt64S a_a).map g30_O:=by
  rw [callFn_eq]
  simp (maxSteps:=2000000) (maxDischargeDepth:=8) -implicitDefEqProofs [g30_tf,laws_toInt64S,g30_E,mksliceV_typed (z:=(0:Int)) (zs:=[(.int .i64 0)]) rfl (by decide) (by decide)] <;> (try simp only [map_to_bind,some_elim,g30_O])
def g30_r:Rule:=RlO g30_E (fun a=>laws_toInt64S a) g30_O
theorem g30_ok:RuleOk Tryd.prog 37 g30_r:=ok_rlo (S:=g30_S) (tf:=g30_tf) (SysOk.on trivial trivial) (trE_ok (ks:=[[0,3,4]]) Tryd.func37 (by kernel_rfl)) fun a=>g30_run a
@[simp] theorem g30_app (y0):g30_r [(.vs (rows y0))]=(laws_toInt64S y0).map g30_O :=
  RlO_app (enc:=g30_E) (by intro a b h;simp [g30_E,Prod.ext_iff] at h ⊢;simp [h]) y0
/-! laws.toPoint -/
def g37_tf:TFn:=⟨(sq [bx 1 0,oo 2 (.alloc [.nils])] [1,2] (sq [oo 3 (.alloc [.nils])] [1,2,3] (sq [fa 4 0 1,ld 5 4,ca 6 37 [.t 5],fa 7 0 3,⟨none,none,(.store 1 (.t 7) (.t 6))⟩] [2,3] (.seq (.ops [ln 8 1 3,⟨none,none,(.store 1 (.t 2) (.t 8))⟩]) (.keep (kp [(2,0)] [(1,2),(3,1)] 0) .ret))))),[.cell 2 (some 1)]⟩
abbrev g37_S:=Sys.on [(37,g30_r)] []
def laws_toPoint (a_a:List Int):Option (List Int):=(laws_toInt64S a_a).bind fun r1=>some r1
@[simp] def g37_O:List Int→TV×List Blk:=fun r=>((.agg [(ow 1 r.length)]),[(.live 1 [[(ow 1 r.length)]]),(ob 1 r)])
def g37_E (a:List Int):List TV:=[(.agg [(.vs (rows a))])]
theorem g37_run (a_a:List Int) :callFn (X g37_S) g37_tf (g37_E a_a) []=(laws_toPoint a_a).map g37_O:=by
  rw [callFn_eq]
  simp (maxSteps:=2000000) (maxDischargeDepth:=8) -implicitDefEqProofs [g37_tf,laws_toPoint,g37_E] <;> (try simp only [map_to_bind,some_elim,g37_O])
def g37_r:Rule:=RlO g37_E (fun a=>laws_toPoint a) g37_O
theorem g37_ok:RuleOk Tryd.prog 79 g37_r:=ok_rlo (S:=g37_S) (tf:=g37_tf) (SysOk.on ⟨g30_ok,trivial⟩ trivial) (trE_ok (ks:=[]) Tryd.func79 (by kernel_rfl)) fun a=>g37_run a
@[simp] theorem g37_app (y0):g37_r [(.agg [(.vs (rows y0))])]=(laws_toPoint y0).map g37_O :=
  RlO_app (enc:=g37_E) (by intro a b h;simp [g37_E,Prod.ext_iff] at h ⊢;simp [h]) y0
/-! laws.toPointS -/
def g31l1_cb:TC:=(.seq (sq [mo 8 4,mo 9 0,le 10 9,bn 11 .lss (.t 8) (.t 10)] [0,3,4,11] (.cond (.t 11) .skip (.keep (kp [(3,1)] [(0,1)] 0) (.exit 0)))) (.trim [0,3,4] (.seq (.block 1 (.ops [mo 14 3,mo 15 4,mo 16 0,mo 17 4,ia 18 1 16 17,ln 19 1 18,ca 20 79 [.t 19],ia 21 1 14 15,⟨(some 20),none,(.frz [2] (.t 20))⟩,⟨none,none,(.store 1 (.t 21) (.t 20))⟩])) (.trim [0,3,4] (.after (.ops [mo 12 4,bn 13 .add (.t 12) (ki 1),mo 4 13]) (kp [(0,0),(3,1),(4,0)] [(0,1)] 0))))))
def g31l1_c:TC:=.loop [0,3,4] g31l1_cb
def g31_tf:TFn:=⟨(sq [mk 2 (.c .nils)] [0] (sq [mo 5 0,le 6 5,oo 7 (.mkslice 24 [.nils] (.t 6) (.t 6)),mo 3 7] [0,3] (.seq (sq [mk 4 (ki 0)] [0,3,4] (.block 0 (.keep (kp [(0,0),(3,1),(4,0)] [(0,1)] 0) g31l1_c))) (.trim [3] (.seq (.ops [mo 22 3,mo 2 22]) (.keep (kp [(2,1)] [(0,1)] 0) .ret)))))),[.t 2]⟩
abbrev g31_S:=Sys.on [(79,g37_r)] []
@[reducible,simp] def g31l1_F:(List (List Int))→Out:=(fun t=>(.ext 0,[(3,(ow 0 t.length))],[(ob 1 t)]))
def laws_toPointS_l1_b (v2:List (List Int)) (v3:List (List Int)) (v4:Int):Option ((List (List Int)×Int) ⊕ (List (List Int))):=if v4 < (v2.length:Int) then if 0≤v4 then (v2[(v4).toNat]?).bind fun x5=>(laws_toPoint x5).bind fun r6=>if 0≤v4∧v4 < ((v3.length:Nat):Int) then (v3[(v4).toNat]?).bind fun x7=>some (.inl ((v3.set (v4).toNat r6),(IntKind.i64.wrap (v4+1)))) else none else none else some (.inr v3)
theorem g31l1_b_eq  (v2:List (List Int)) (v3:List (List Int)) (v4:Int):X g31_S g31l1_cb (keepEnv [0,3,4] [(0,(.vs (rows v2))),(3,(ow 0 v3.length)),(4,(.int .i64 v4))]) [(ob 1 v3)]=(laws_toPointS_l1_b v2 v3 v4).map (Sum.elim (fun s=>(TX.nrm,[(0,(.vs (rows v2))),(3,(ow 0 s.1.length)),(4,(.int .i64 s.2))],[(ob 1 s.1)])) g31l1_F):=by
  simp (maxSteps:=2000000) (maxDischargeDepth:=8) -implicitDefEqProofs [g31l1_cb,laws_toPointS_l1_b,mksliceV_typed (z:=(([]:List Int):List Int)) (zs:=[.nils]) rfl (by decide) (by decide)] <;> (try simp only [map_to_bind,some_elim,g31l1_F])
def laws_toPointS_l1 (v2:List (List Int)) (s:List (List Int)×Int):Option (List (List Int)):=loopO (fun s=>laws_toPointS_l1_b v2 s.1 s.2) s
@[simp] theorem g31l1_eq (y0)(y1:List (List Int))(y2){n1:Nat}(h1:n1=y1.length):X g31_S g31l1_c [(0,(.vs (rows y0))),(3,(ow 0 n1)),(4,(.int .i64 y2))] [(ob 1 y1)]=(laws_toPointS_l1 y0 (y1,y2)).map g31l1_F:=by
  subst h1
  exact loop_X _ _ _ _ (by intro r;first | (simp;done) | (rcases r with r | r <;> simp;done) | (rcases r with r | r | r <;> simp;done) | (rcases r with r | r | r | r <;> simp)) (fun s=>g31l1_b_eq  y0 s.1 s.2) (y1,y2)
def laws_toPointS (a_a:List (List Int)):Option (List (List Int)):=(mkL 24 ((a_a.length:Int)) ((a_a.length:Int)) (([]:List Int):List Int)).bind fun l1=>(laws_toPointS_l1 a_a ((l1,0))).bind fun r8=>some r8
@[simp] def g31_O:List (List Int)→TV×List Blk:=fun r=>((ow 0 r.length),[(ob 1 r)])
def g31_E (a:List (List Int)):List TV:=[(.vs (rows a))]
theorem g31_run (a_a:List (List Int)) :callFn (X g31_S) g31_tf (g31_E a_a) []=(laws_toPointS a_a).map g31_O:=by
  rw [callFn_eq]
  simp (maxSteps:=2000000) (maxDischargeDepth:=8) -implicitDefEqProofs [g31_tf,laws_toPointS,g31_E,mksliceV_typed (z:=(([]:List Int):List Int)) (zs:=[.nils]) rfl (by decide) (by decide)] <;> (try simp only [map_to_bind,some_elim,g31_O])
def g31_r:Rule:=RlO g31_E (fun a=>laws_toPointS a) g31_O
theorem g31_ok:RuleOk Tryd.prog 38 g31_r:=ok_rlo (S:=g31_S) (tf:=g31_tf) (SysOk.on ⟨g37_ok,trivial⟩ trivial) (trE_ok (ks:=[[0,3,4]]) Tryd.func38 (by kernel_rfl)) fun a=>g31_run a
@[simp] theorem g31_app (y0):g31_r [(.vs (rows y0))]=(laws_toPointS y0).map g31_O :=
  RlO_app (enc:=g31_E) (by intro a b h;simp [g31_E,Prod.ext_iff] at h ⊢;simp [h]) y0
/-! laws.toSelection -/
def g21_tf:TFn:=⟨(sq [bx 1 0,oo 2 (.alloc [(.int .i64 0),.nils,.nils,.nils,.nils,.nils])] [1,2] (sq [oo 3 (.alloc [(.int .i64 0),.nils,.nils,.nils,.nils,.nils])] [1,2,3] (sq [fa 4 0 1,ld 5 4,fa 6 0 3,⟨none,none,(.store 1 (.t 6) (.t 5))⟩] [1,2,3] (sq [fa 7 1 1,ld 8 7,ca 9 37 [.t 8],fa 10 1 3,⟨none,none,(.store 1 (.t 10) (.t 9))⟩] [1,2,3] (sq [fa 11 2 1,ld 12 11,ca 13 37 [.t 12],fa 14 2 3,⟨none,none,(.store 1 (.t 14) (.t 13))⟩] [1,2,3] (sq [fa 15 3 1,ld 16 15,ca 17 37 [.t 16],fa 18 3 3,⟨none,none,(.store 1 (.t 18) (.t 17))⟩] [1,2,3] (sq [fa 19 4 1,ld 20 19,ca 21 37 [.t 20],fa 22 4 3,⟨none,none,(.store 1 (.t 22) (.t 21))⟩] [1,2,3] (sq [fa 23 5 1,ld 24 23,ca 25 38 [.t 24],fa 26 5 3,⟨none,none,(.store 1 (.t 26) (.t 25))⟩] [2,3] (.seq (.ops [ln 27 6 3,⟨none,none,(.store 6 (.t 2) (.t 27))⟩]) (.keep (kp [(2,0)] [(1,2),(3,1),(4,1),(5,1),(6,1),(7,1)] 0) .ret)))))))))),[.cell 2 (some 6)]⟩
abbrev g21_S:=Sys.on [(37,g30_r),(38,g31_r)] []
def laws_toSelection (a_a:K0):Option (K0):=(laws_toInt64S a_a.2.1).bind fun r1=>(laws_toInt64S a_a.2.2.1).bind fun r2=>(laws_toInt64S a_a.2.2.2.1).bind fun r3=>(laws_toInt64S a_a.2.2.2.2.1).bind fun r4=>(laws_toPointS a_a.2.2.2.2.2).bind fun r5=>some ((a_a.1,r1,r2,r3,r4,r5))
@[simp] def g21_O:(K0)→TV×List Blk:=fun r=>((.agg [(.int .i64 r.1),(ow 1 r.2.1.length),(ow 2 r.2.2.1.length),(ow 3 r.2.2.2.1.length),(ow 4 r.2.2.2.2.1.length),(ow 5 r.2.2.2.2.2.length)]),[(.live 6 [[(.int .i64 r.1),(ow 1 r.2.1.length),(ow 2 r.2.2.1.length),(ow 3 r.2.2.2.1.length),(ow 4 r.2.2.2.2.1.length),(ow 5 r.2.2.2.2.2.length)]]),(ob 1 r.2.1),(ob 1 r.2.2.1),(ob 1 r.2.2.2.1),(ob 1 r.2.2.2.2.1),(ob 1 r.2.2.2.2.2)])
def g21_E (a:K0):List TV:=[(.agg [(.int .i64 a.1),(.vs (rows a.2.1)),(.vs (rows a.2.2.1)),(.vs (rows a.2.2.2.1)),(.vs (rows a.2.2.2.2.1)),(.vs (rows a.2.2.2.2.2))])]
theorem g21_run (a_a:K0) :callFn (X g21_S) g21_tf (g21_E a_a) []=(laws_toSelection a_a).map g21_O:=by
  rw [callFn_eq]
  simp (maxSteps:=2000000) (maxDischargeDepth:=8) -implicitDefEqProofs [g21_tf,laws_toSelection,g21_E] <;> (try simp only [map_to_bind,some_elim,g21_O])
def g21_r:Rule:=RlO g21_E (fun a=>laws_toSelection a) g21_O
theorem g21_ok:RuleOk Tryd.prog 10 g21_r:=ok_rlo (S:=g21_S) (tf:=g21_tf) (SysOk.on ⟨g30_ok,g31_ok,trivial⟩ trivial) (trE_ok (ks:=[]) Tryd.func10 (by kernel_rfl)) fun a=>g21_run a
@[simp] theorem g21_app (y0 y1 y2 y3 y4 y5):g21_r [(.agg [(.int .i64 y0),(.vs (rows y1)),(.vs (rows y2)),(.vs (rows y3)),(.vs (rows y4)),(.vs (rows y5))])]=(laws_toSelection ((y0,y1,y2,y3,y4,y5))).map g21_O :=
  RlO_app (enc:=g21_E) (by intro a b h;simp [g21_E,Prod.ext_iff] at h ⊢;simp [h]) ((y0,y1,y2,y3,y4,y5))
/-! spec.l06Plain -/
def g32_tf:TFn:=⟨(sq [bx 1 0,mk 2 (kb false)] [1] (.seq (.after (.ops [fa 3 1 1,ld 4 3,le 5 4,bn 6 .eql (.t 5) (ki 0),mo 7 6,⟨(some 8),(some (7,true)),(.faddr 2 (.t 1))⟩,⟨(some 9),(some (7,true)),(.load none (.t 8))⟩,⟨(some 10),(some (7,true)),(.len false (.t 9))⟩,⟨(some 11),(some (7,true)),(.bin .num .eql (.t 10) (ki 0))⟩,pk 12 (.t 7) (.t 11) (kb false),mo 13 12,⟨(some 14),(some (13,true)),(.faddr 3 (.t 1))⟩,⟨(some 15),(some (13,true)),(.load none (.t 14))⟩,⟨(some 16),(some (13,true)),(.len false (.t 15))⟩,⟨(some 17),(some (13,true)),(.bin .num .eql (.t 16) (ki 0))⟩,pk 18 (.t 13) (.t 17) (kb false),mo 19 18,⟨(some 20),(some (19,true)),(.faddr 4 (.t 1))⟩,⟨(some 21),(some (19,true)),(.load none (.t 20))⟩,⟨(some 22),(some (19,true)),(.len false (.t 21))⟩,⟨(some 23),(some (19,true)),(.bin .num .eql (.t 22) (ki 0))⟩,pk 24 (.t 19) (.t 23) (kb false),mo 2 24]) (kp [(2,0)] [] 0)) (.keep (kp [(2,0)] [] 0) .ret))),[.t 2]⟩
abbrev g32_S:=Sys.on [] []
def spec_l06Plain (a_s:K0):Option (Bool):=if (a_s.2.1.length:Int)=0 then if (a_s.2.2.1.length:Int)=0 then if (a_s.2.2.2.1.length:Int)=0 then some ((decide ((a_s.2.2.2.2.1.length:Int)=0))) else some false else some false else some false
@[simp] def g32_O:Bool→TV×List Blk:=fun r=>((.bool r),[])
def g32_E (a:K0):List TV:=[(.agg [(.int .i64 a.1),(.vs (rows a.2.1)),(.vs (rows a.2.2.1)),(.vs (rows a.2.2.2.1)),(.vs (rows a.2.2.2.2.1)),(.vs (rows a.2.2.2.2.2))])]
theorem g32_run (a_s:K0) :callFn (X g32_S) g32_tf (g32_E a_s) []=(spec_l06Plain a_s).map g32_O:=by
  rw [callFn_eq]
  simp (maxSteps:=2000000) (maxDischargeDepth:=8) -implicitDefEqProofs [g32_tf,spec_l06Plain,g32_E] <;> (try simp only [map_to_bind,some_elim,g32_O])
def g32_r:Rule:=RlO g32_E (fun a=>spec_l06Plain a) g32_O
theorem g32_ok:RuleOk Tryd.prog 75 g32_r:=ok_rlo (S:=g32_S) (tf:=g32_tf) (SysOk.on trivial trivial) (trE_ok (ks:=[]) Tryd.func75 (by kernel_rfl)) fun a=>g32_run a
@[simp] theorem g32_app (y0 y1 y2 y3 y4 y5):g32_r [(.agg [(.int .i64 y0),(.vs (rows y1)),(.vs (rows y2)),(.vs (rows y3)),(.vs (rows y4)),(.vs (rows y5))])]=(spec_l06Plain ((y0,y1,y2,y3,y4,y5))).map g32_O :=
  RlO_app (enc:=g32_E) (by intro a b h;simp [g32_E,Prod.ext_iff] at h ⊢;simp [h]) ((y0,y1,y2,y3,y4,y5))
/-! spec.l00In -/
def g45_tf:TFn:=⟨(sq [mk 6 (kb false)] [0,1,2] (.seq (.after (.ops [mo 7 0,mo 8 1,bn 9 .geq (.t 7) (.t 8),mo 10 9,⟨(some 11),(some (10,true)),(.mv (.t 0))⟩,⟨(some 12),(some (10,true)),(.mv (.t 2))⟩,⟨(some 13),(some (10,true)),(.bin .num .leq (.t 11) (.t 12))⟩,pk 14 (.t 10) (.t 13) (kb false),mo 6 14]) (kp [(6,0)] [] 0)) (.keep (kp [(6,0)] [] 0) .ret))),[.t 6]⟩
abbrev g45_S:=Sys.on [] []
def spec_l00In (a_n:Int) (a_low:Int) (a_high:Int):Option (Bool):=if a_n ≥ a_low then some ((decide (a_n≤a_high))) else some false
@[simp] def g45_O:Bool→TV×List Blk:=fun r=>((.bool r),[])
def g45_E (a:Int×Int×Int):List TV:=[(.int .i64 a.1),(.int .i64 a.2.1),(.int .i64 a.2.2)]
theorem g45_run (a_n:Int) (a_low:Int) (a_high:Int) :callFn (X g45_S) g45_tf (g45_E (a_n,a_low,a_high)) []=(spec_l00In a_n a_low a_high).map g45_O:=by
  rw [callFn_eq]
  simp (maxSteps:=2000000) (maxDischargeDepth:=8) -implicitDefEqProofs [g45_tf,spec_l00In,g45_E] <;> (try simp only [map_to_bind,some_elim,g45_O])
def g45_r:Rule:=RlO g45_E (fun a=>spec_l00In a.1 a.2.1 a.2.2) g45_O
theorem g45_ok:RuleOk Tryd.prog 115 g45_r:=ok_rlo (S:=g45_S) (tf:=g45_tf) (SysOk.on trivial trivial) (trE_ok (ks:=[]) Tryd.func115 (by kernel_rfl)) fun a=>g45_run a.1 a.2.1 a.2.2
@[simp] theorem g45_app (y0 y1 y2):g45_r [(.int .i64 y0),(.int .i64 y1),(.int .i64 y2)]=(spec_l00In y0 y1 y2).map g45_O :=
  RlO_app (enc:=g45_E) (by intro a b h;simp [g45_E,Prod.ext_iff] at h ⊢;simp [h]) (y0,y1,y2)
/-! spec.l06End -/
def g43_tf:TFn:=⟨(sq [bx 2 0,mk 4 (ki 0)] [1,2] (.seq (.draw [([],fa 5 1 2),([0],ld 6 5),([],mo 7 1),([0,1,2],ia 8 1 6 7),([0,1,2,3],ld 9 8),([],fa 10 3 2),([5],ld 11 10),([],mo 12 1),([5,6,7],ia 13 1 11 12),([5,6,7,8],ld 14 13),([5,6,7,8,9],bn 15 .sub (.t 14) (ki 1)),([],fa 16 2 2),([11],ld 17 16),([],mo 18 1),([11,12,13],ia 19 1 17 18),([11,12,13,14],ld 20 19),([5,6,7,8,9,10,11,12,13,14,15],bn 21 .mul (.t 15) (.t 20)),([0,1,2,3,4,5,6,7,8,9,10,11,12,13,14,15,16],bn 22 .add (.t 9) (.t 21)),([],fa 23 4 2),([18],ld 24 23),([],mo 25 1),([18,19,20],ia 26 1 24 25),([18,19,20,21],ld 27 26)] [bn 28 .add (.t 22) (.t 27),mo 4 28]) (.keep (kp [(4,0)] [] 0) .ret))),[.t 4]⟩
abbrev g43_S:=Sys.on [] []
def spec_l06End (a_s:K0) (a_i:Int):Option (Int):=if 0≤a_i then (a_s.2.1[(a_i).toNat]?).bind fun x1=>if 0≤a_i then (a_s.2.2.2.1[(a_i).toNat]?).bind fun x2=>if 0≤a_i then (a_s.2.2.1[(a_i).toNat]?).bind fun x3=>if 0≤a_i then (a_s.2.2.2.2.1[(a_i).toNat]?).bind fun x4=>some ((IntKind.i64.wrap ((IntKind.i64.wrap (x1+(IntKind.i64.wrap ((IntKind.i64.wrap (x2 - 1)) * x3))))+x4))) else none else none else none else none
@[simp] def g43_O:Int→TV×List Blk:=fun r=>((.int .i64 r),[])
def g43_E (a:K0×Int):List TV:=[(.agg [(.int .i64 a.1.1),(.vs (rows a.1.2.1)),(.vs (rows a.1.2.2.1)),(.vs (rows a.1.2.2.2.1)),(.vs (rows a.1.2.2.2.2.1)),(.vs (rows a.1.2.2.2.2.2))]),(.int .i64 a.2)]
theorem g43_run (a_s:K0) (a_i:Int) :callFn (X g43_S) g43_tf (g43_E (a_s,a_i)) []=(spec_l06End a_s a_i).map g43_O:=by
  rw [callFn_eq]
  simp (maxSteps:=2000000) (maxDischargeDepth:=8) -implicitDefEqProofs [g43_tf,spec_l06End,g43_E] <;> (try simp only [map_to_bind,some_elim,g43_O])
def g43_r:Rule:=RlO g43_E (fun a=>spec_l06End a.1 a.2) g43_O
theorem g43_ok:RuleOk Tryd.prog 116 g43_r:=ok_rlo (S:=g43_S) (tf:=g43_tf) (SysOk.on trivial trivial) (trE_ok (ks:=[[23]]) Tryd.func116 (by kernel_rfl)) fun a=>g43_run a.1 a.2
@[simp] theorem g43_app (y0 y1 y2 y3 y4 y5 y6):g43_r [(.agg [(.int .i64 y0),(.vs (rows y1)),(.vs (rows y2)),(.vs (rows y3)),(.vs (rows y4)),(.vs (rows y5))]),(.int .i64 y6)]=(spec_l06End ((y0,y1,y2,y3,y4,y5)) y6).map g43_O :=
  RlO_app (enc:=g43_E) (by intro a b h;simp [g43_E,Prod.ext_iff] at h ⊢;simp [h]) ((y0,y1,y2,y3,y4,y5),y6)
/-! spec.l06Slab -/
def g38l1_cb:TC:=(.seq (sq [mo 37 4,mo 38 3,bn 39 .lss (.t 37) (.t 38)] [1,3,4,39] (.cond (.t 39) .skip (.keep (kp [] [] 0) (.exit 0)))) (.trim [1,3,4] (.seq (.block 1 (.seq (.draw [([],fa 42 1 1),([0],ld 43 42),([],mo 44 4),([0,1,2],ia 45 1 43 44),([0,1,2,3],ld 46 45),([0,1,2,3,4],ca 47 115 [.t 46,ki 0,ki 40]),([0,1,2,3,4,5],nt 48 47),([0,1,2,3,4,5,6],mo 49 48),([0,1,2,3,4,5,6,7],⟨(some 50),(some (49,false)),(.faddr 3 (.t 1))⟩),([0,1,2,3,4,5,6,7,8],⟨(some 51),(some (49,false)),(.load none (.t 50))⟩),([0,1,2,3,4,5,6,7],⟨(some 52),(some (49,false)),(.mv (.t 4))⟩),([0,1,2,3,4,5,6,7,8,9,10],⟨(some 53),(some (49,false)),(.iaddr 1 (.t 51) (.t 52))⟩),([0,1,2,3,4,5,6,7,8,9,10,11],⟨(some 54),(some (49,false)),(.load none (.t 53))⟩),([0,1,2,3,4,5,6,7,8,9,10,11,12],⟨(some 55),(some (49,false)),(.call 115 [.t 54,ki 1,ki 40])⟩),([0,1,2,3,4,5,6,7,8,9,10,11,12,13],⟨(some 56),(some (49,false)),(.un .not (.t 55))⟩),([0,1,2,3,4,5,6,7,8,9,10,11,12,13,14],pk 57 (.t 49) (kb true) (.t 56)),([0,1,2,3,4,5,6,7,8,9,10,11,12,13,14,15],mo 58 57),([0,1,2,3,4,5,6,7,8,9,10,11,12,13,14,15,16],⟨(some 59),(some (58,false)),(.faddr 4 (.t 1))⟩),([0,1,2,3,4,5,6,7,8,9,10,11,12,13,14,15,16,17],⟨(some 60),(some (58,false)),(.load none (.t 59))⟩),([0,1,2,3,4,5,6,7,8,9,10,11,12,13,14,15,16],⟨(some 61),(some (58,false)),(.mv (.t 4))⟩),([0,1,2,3,4,5,6,7,8,9,10,11,12,13,14,15,16,17,18,19],⟨(some 62),(some (58,false)),(.iaddr 1 (.t 60) (.t 61))⟩),([0,1,2,3,4,5,6,7,8,9,10,11,12,13,14,15,16,17,18,19,20],⟨(some 63),(some (58,false)),(.load none (.t 62))⟩),([0,1,2,3,4,5,6,7,8,9,10,11,12,13,14,15,16,17,18,19,20,21],⟨(some 64),(some (58,false)),(.call 115 [.t 63,ki 1,ki 40])⟩),([0,1,2,3,4,5,6,7,8,9,10,11,12,13,14,15,16,17,18,19,20,21,22],⟨(some 65),(some (58,false)),(.un .not (.t 64))⟩),([0,1,2,3,4,5,6,7,8,9,10,11,12,13,14,15,16,17,18,19,20,21,22,23],pk 66 (.t 58) (kb true) (.t 65)),([0,1,2,3,4,5,6,7,8,9,10,11,12,13,14,15,16,17,18,19,20,21,22,23,24],mo 67 66),([0,1,2,3,4,5,6,7,8,9,10,11,12,13,14,15,16,17,18,19,20,21,22,23,24,25],⟨(some 68),(some (67,false)),(.faddr 2 (.t 1))⟩),([0,1,2,3,4,5,6,7,8,9,10,11,12,13,14,15,16,17,18,19,20,21,22,23,24,25,26],⟨(some 69),(some (67,false)),(.load none (.t 68))⟩),([0,1,2,3,4,5,6,7,8,9,10,11,12,13,14,15,16,17,18,19,20,21,22,23,24,25],⟨(some 70),(some (67,false)),(.mv (.t 4))⟩),([0,1,2,3,4,5,6,7,8,9,10,11,12,13,14,15,16,17,18,19,20,21,22,23,24,25,26,27,28],⟨(some 71),(some (67,false)),(.iaddr 1 (.t 69) (.t 70))⟩),([0,1,2,3,4,5,6,7,8,9,10,11,12,13,14,15,16,17,18,19,20,21,22,23,24,25,26,27,28,29],⟨(some 72),(some (67,false)),(.load none (.t 71))⟩),([0,1,2,3,4,5,6,7,8,9,10,11,12,13,14,15,16,17,18,19,20,21,22,23,24,25],⟨(some 73),(some (67,false)),(.faddr 4 (.t 1))⟩),([0,1,2,3,4,5,6,7,8,9,10,11,12,13,14,15,16,17,18,19,20,21,22,23,24,25,31],⟨(some 74),(some (67,false)),(.load none (.t 73))⟩),([0,1,2,3,4,5,6,7,8,9,10,11,12,13,14,15,16,17,18,19,20,21,22,23,24,25],⟨(some 75),(some (67,false)),(.mv (.t 4))⟩),([0,1,2,3,4,5,6,7,8,9,10,11,12,13,14,15,16,17,18,19,20,21,22,23,24,25,31,32,33],⟨(some 76),(some (67,false)),(.iaddr 1 (.t 74) (.t 75))⟩),([0,1,2,3,4,5,6,7,8,9,10,11,12,13,14,15,16,17,18,19,20,21,22,23,24,25,31,32,33,34],⟨(some 77),(some (67,false)),(.load none (.t 76))⟩),([0,1,2,3,4,5,6,7,8,9,10,11,12,13,14,15,16,17,18,19,20,21,22,23,24,25,26,27,28,29,30,31,32,33,34,35],⟨(some 78),(some (67,false)),(.call 115 [.t 72,.t 77,ki 40])⟩),([0,1,2,3,4,5,6,7,8,9,10,11,12,13,14,15,16,17,18,19,20,21,22,23,24,25,26,27,28,29,30,31,32,33,34,35,36],⟨(some 79),(some (67,false)),(.un .not (.t 78))⟩),([0,1,2,3,4,5,6,7,8,9,10,11,12,13,14,15,16,17,18,19,20,21,22,23,24,25,26,27,28,29,30,31,32,33,34,35,36,37],pk 80 (.t 67) (kb true) (.t 79)),([0,1,2,3,4,5,6,7,8,9,10,11,12,13,14,15,16,17,18,19,20,21,22,23,24,25,26,27,28,29,30,31,32,33,34,35,36,37,38],mo 81 80),([0,1,2,3,4,5,6,7,8,9,10,11,12,13,14,15,16,17,18,19,20,21,22,23,24,25,26,27,28,29,30,31,32,33,34,35,36,37,38,39],⟨(some 82),(some (81,false)),(.load (some 6) (.t 1))⟩),([0,1,2,3,4,5,6,7,8,9,10,11,12,13,14,15,16,17,18,19,20,21,22,23,24,25,26,27,28,29,30,31,32,33,34,35,36,37,38,39],⟨(some 83),(some (81,false)),(.mv (.t 4))⟩)] [⟨(some 84),(some (81,false)),(.call 116 [.t 82,.t 83])⟩,⟨(some 85),(some (81,false)),(.bin .num .gtr (.t 84) (ki 40))⟩,pk 86 (.t 81) (kb true) (.t 85)]) (.trim [1,3,4,86] (.cond (.t 86) (.seq (.ops [mk 2 (kb false)]) (.keep (kp [(2,0)] [] 0) .ret)) .skip)))) (.trim [1,3,4] (.after (.ops [mo 40 4,bn 41 .add (.t 40) (ki 1),mo 4 41]) (kp [(1,0),(3,0),(4,0)] [(0,0)] 0))))))
def g38l1_c:TC:=.loop [1,3,4] g38l1_cb
def g38_tf:TFn:=⟨(sq [bx 1 0,mk 2 (kb false)] [1] (sq [fa 5 1 1,ld 6 5,le 7 6,mo 3 7] [1,3] (.seq (sq [mo 8 3,bn 9 .gtr (.t 8) (ki 3),mo 10 9,⟨(some 11),(some (10,false)),(.faddr 2 (.t 1))⟩,⟨(some 12),(some (10,false)),(.load none (.t 11))⟩,⟨(some 13),(some (10,false)),(.len false (.t 12))⟩,⟨(some 14),(some (10,false)),(.mv (.t 3))⟩,⟨(some 15),(some (10,false)),(.bin .num .neq (.t 13) (.t 14))⟩,pk 16 (.t 10) (kb true) (.t 15),mo 17 16,⟨(some 18),(some (17,false)),(.faddr 3 (.t 1))⟩,⟨(some 19),(some (17,false)),(.load none (.t 18))⟩,⟨(some 20),(some (17,false)),(.len false (.t 19))⟩,⟨(some 21),(some (17,false)),(.mv (.t 3))⟩,⟨(some 22),(some (17,false)),(.bin .num .neq (.t 20) (.t 21))⟩,pk 23 (.t 17) (kb true) (.t 22),mo 24 23,⟨(some 25),(some (24,false)),(.faddr 4 (.t 1))⟩,⟨(some 26),(some (24,false)),(.load none (.t 25))⟩,⟨(some 27),(some (24,false)),(.len false (.t 26))⟩,⟨(some 28),(some (24,false)),(.mv (.t 3))⟩,⟨(some 29),(some (24,false)),(.bin .num .neq (.t 27) (.t 28))⟩,pk 30 (.t 24) (kb true) (.t 29),mo 31 30,⟨(some 32),(some (31,false)),(.faddr 5 (.t 1))⟩,⟨(some 33),(some (31,false)),(.load none (.t 32))⟩,⟨(some 34),(some (31,false)),(.len false (.t 33))⟩,⟨(some 35),(some (31,false)),(.bin .num .gtr (.t 34) (ki 0))⟩,pk 36 (.t 31) (kb true) (.t 35)] [1,3,36] (.cond (.t 36) (.seq (.ops [mk 2 (kb false)]) (.keep (kp [(2,0)] [] 0) .ret)) .skip)) (.trim [1,3] (.seq (sq [mk 4 (ki 0)] [1,3,4] (.block 0 (.keep (kp [(1,0),(3,0),(4,0)] [(0,0)] 0) g38l1_c))) (.trim [] (.seq (.ops [mk 2 (kb true)]) (.keep (kp [(2,0)] [] 0) .ret)))))))),[.t 2]⟩
abbrev g38_S:=Sys.on [(115,g45_r),(116,g43_r)] []
@[reducible,simp] def g38l1_F:((Unit) ⊕ (Bool))→Out:=(Sum.elim (fun t=>(.ext 0,[],[])) (fun t=>(.ret,[(2,(.bool t))],[])))
def spec_l06Slab_l1_b (v1:K0) (v2:Int) (v3:Int):Option ((Int) ⊕ ((Unit) ⊕ (Bool))):=if v3 < v2 then if 0≤v3 then (v1.2.1[(v3).toNat]?).bind fun x4=>(spec_l00In x4 0 40).bind fun r5=>if ¬(r5=true) then some (.inr (.inr false)) else if 0≤v3 then (v1.2.2.2.1[(v3).toNat]?).bind fun x6=>(spec_l00In x6 1 40).bind fun r7=>if ¬(r7=true) then some (.inr (.inr false)) else if 0≤v3 then (v1.2.2.2.2.1[(v3).toNat]?).bind fun x8=>(spec_l00In x8 1 40).bind fun r9=>if ¬(r9=true) then some (.inr (.inr false)) else if 0≤v3 then (v1.2.2.1[(v3).toNat]?).bind fun x10=>if 0≤v3 then (v1.2.2.2.2.1[(v3).toNat]?).bind fun x11=>(spec_l00In x10 x11 40).bind fun r12=>if ¬(r12=true) then some (.inr (.inr false)) else (spec_l06End v1 v3).bind fun r13=>if r13 > 40 then some (.inr (.inr false)) else some (.inl ((IntKind.i64.wrap (v3+1)))) else none else none else none else none else none else some (.inr (.inl ()))
theorem g38l1_b_eq  (v1:K0) (v2:Int) (v3:Int):X g38_S g38l1_cb (keepEnv [1,3,4] [(1,(.ptr 0 0 0)),(3,(.int .i64 v2)),(4,(.int .i64 v3))]) [(.live 6 [[(.int .i64 v1.1),(.vs (rows v1.2.1)),(.vs (rows v1.2.2.1)),(.vs (rows v1.2.2.2.1)),(.vs (rows v1.2.2.2.2.1)),(.vs (rows v1.2.2.2.2.2))]])]=(spec_l06Slab_l1_b v1 v2 v3).map (Sum.elim (fun s=>(TX.nrm,[(1,(.ptr 0 0 0)),(3,(.int .i64 v2)),(4,(.int .i64 s))],[(.live 6 [[(.int .i64 v1.1),(.vs (rows v1.2.1)),(.vs (rows v1.2.2.1)),(.vs (rows v1.2.2.2.1)),(.vs (rows v1.2.2.2.2.1)),(.vs (rows v1.2.2.2.2.2))]])])) g38l1_F):=by
  simp (maxSteps:=2000000) (maxDischargeDepth:=8) -implicitDefEqProofs [g38l1_cb,spec_l06Slab_l1_b] <;> (try simp only [map_to_bind,some_elim,g38l1_F])
def spec_l06Slab_l1 (v1:K0) (v2:Int) (s:Int):Option ((Unit) ⊕ (Bool)):=loopO (fun s=>spec_l06Slab_l1_b v1 v2 s) s
@[simp] theorem g38l1_eq (y0 y1 y2 y3 y4 y5 y6 y7):X g38_S g38l1_c [(1,(.ptr 0 0 0)),(3,(.int .i64 y6)),(4,(.int .i64 y7))] [(.live 6 [[(.int .i64 y0),(.vs (rows y1)),(.vs (rows y2)),(.vs (rows y3)),(.vs (rows y4)),(.vs (rows y5))]])]=(spec_l06Slab_l1 ((y0,y1,y2,y3,y4,y5)) y6 y7).map g38l1_F:=by
  exact loop_X _ _ _ _ (by intro r;first | (simp;done) | (rcases r with r | r <;> simp;done) | (rcases r with r | r | r <;> simp;done) | (rcases r with r | r | r | r <;> simp)) (fun s=>g38l1_b_eq  ((y0,y1,y2,y3,y4,y5)) y6 s) y7
def spec_l06Slab (a_s:K0):Option (Bool):=if (a_s.2.1.length:Int) > 3 then some false else if ¬((a_s.2.2.1.length:Int)=(a_s.2.1.length:Int)) then some false else if ¬((a_s.2.2.2.1.length:Int)=(a_s.2.1.length:Int)) then some false else if ¬((a_s.2.2.2.2.1.length:Int)=(a_s.2.1.length:Int)) then some false else if (a_s.2.2.2.2.2.length:Int) > 0 then some false else (spec_l06Slab_l1 a_s ((a_s.2.1.length:Int)) 0).bind fun r14=>Sum.elim (fun u15=>some true) (fun u16=>some u16) r14
@[simp] def g38_O:Bool→TV×List Blk:=fun r=>((.bool r),[])
def g38_E (a:K0):List TV:=[(.agg [(.int .i64 a.1),(.vs (rows a.2.1)),(.vs (rows a.2.2.1)),(.vs (rows a.2.2.2.1)),(.vs (rows a.2.2.2.2.1)),(.vs (rows a.2.2.2.2.2))])]
theorem g38_run (a_s:K0) :callFn (X g38_S) g38_tf (g38_E a_s) []=(spec_l06Slab a_s).map g38_O:=by
  rw [callFn_eq]
  simp (maxSteps:=2000000) (maxDischargeDepth:=8) -implicitDefEqProofs [g38_tf,spec_l06Slab,g38_E] <;> (try simp only [map_to_bind,some_elim,g38_O])
def g38_r:Rule:=RlO g38_E (fun a=>spec_l06Slab a) g38_O
theorem g38_ok:RuleOk Tryd.prog 76 g38_r:=ok_rlo (S:=g38_S) (tf:=g38_tf) (SysOk.on ⟨g45_ok,g43_ok,trivial⟩ trivial) (trE_ok (ks:=[[1,3,4],[42]]) Tryd.func76 (by kernel_rfl)) fun a=>g38_run a
@[simp] theorem g38_app (y0 y1 y2 y3 y4 y5):g38_r [(.agg [(.int .i64 y0),(.vs (rows y1)),(.vs (rows y2)),(.vs (rows y3)),(.vs (rows y4)),(.vs (rows y5))])]=(spec_l06Slab ((y0,y1,y2,y3,y4,y5))).map g38_O :=
  RlO_app (enc:=g38_E) (by intro a b h;simp [g38_E,Prod.ext_iff] at h ⊢;simp [h]) ((y0,y1,y2,y3,y4,y5))
/-! spec.l06Points -/
def g23l2_cb:TC:=(.seq (sq [mo 36 4,mo 37 0,mo 38 3,ia 39 1 37 38,fa 40 0 39,ld 41 40,le 42 41,bn 43 .lss (.t 36) (.t 42)] [0,3,4,43] (.cond (.t 43) .skip (.keep (kp [(0,0),(3,0)] [] 0) (.exit 2)))) (.trim [0,3,4] (.seq (.block 3 (sq [mo 46 0,mo 47 3,ia 48 1 46 47,fa 49 0 48,ld 50 49,mo 51 4,ia 52 1 50 51,ld 53 52,ca 54 115 [.t 53,ki 0,ki 39],nt 55 54] [0,3,4,55] (.cond (.t 55) (.seq (.ops [mk 2 (kb false)]) (.keep (kp [(2,0)] [] 0) .ret)) .skip))) (.trim [0,3,4] (.after (.ops [mo 44 4,bn 45 .add (.t 44) (ki 1),mo 4 45]) (kp [(0,0),(3,0),(4,0)] [] 0))))))
def g23l2_c:TC:=.loop [0,3,4] g23l2_cb
def g23l1_cb:TC:=(.seq (sq [mo 9 3,mo 10 0,le 11 10,bn 12 .lss (.t 9) (.t 11)] [0,3,12] (.cond (.t 12) .skip (.keep (kp [] [] 0) (.exit 0)))) (.trim [0,3] (.seq (.block 1 (.seq (.seq (.draw [([],mo 15 0),([],mo 16 3),([0,1],ia 17 1 15 16),([0,1,2],fa 18 0 17),([0,1,2,3],ld 19 18),([0,1,2,3,4],le 20 19),([],mo 21 0),([6],oo 22 (.iaddr 1 (.t 21) (ki 0))),([6,7],fa 23 0 22),([6,7,8],ld 24 23),([6,7,8,9],le 25 24),([0,1,2,3,4,5,6,7,8,9,10],bn 26 .neq (.t 20) (.t 25)),([0,1,2,3,4,5,6,7,8,9,10,11],mo 27 26),([0,1,2,3,4,5,6,7,8,9,10,11,12],⟨(some 28),(some (27,false)),(.mv (.t 0))⟩),([0,1,2,3,4,5,6,7,8,9,10,11,12],⟨(some 29),(some (27,false)),(.mv (.t 3))⟩)] [⟨(some 30),(some (27,false)),(.iaddr 1 (.t 28) (.t 29))⟩,⟨(some 31),(some (27,false)),(.faddr 0 (.t 30))⟩,⟨(some 32),(some (27,false)),(.load none (.t 31))⟩,⟨(some 33),(some (27,false)),(.len false (.t 32))⟩,⟨(some 34),(some (27,false)),(.bin .num .gtr (.t 33) (ki 3))⟩,pk 35 (.t 27) (kb true) (.t 34)]) (.trim [0,3,35] (.cond (.t 35) (.seq (.ops [mk 2 (kb false)]) (.keep (kp [(2,0)] [] 0) .ret)) .skip))) (.trim [0,3] (sq [mk 4 (ki 0)] [0,3,4] (.block 2 (.keep (kp [(0,0),(3,0),(4,0)] [] 0) g23l2_c)))))) (.trim [0,3] (.after (.ops [mo 13 3,bn 14 .add (.t 13) (ki 1),mo 3 14]) (kp [(0,0),(3,0)] [] 0))))))
def g23l1_c:TC:=.loop [0,3] g23l1_cb
def g23_tf:TFn:=⟨(sq [mk 2 (kb false)] [0] (.seq (sq [mo 5 0,le 6 5,ca 7 115 [.t 6,ki 1,ki 24],nt 8 7] [0,8] (.cond (.t 8) (.seq (.ops [mk 2 (kb false)]) (.keep (kp [(2,0)] [] 0) .ret)) .skip)) (.trim [0] (.seq (sq [mk 3 (ki 0)] [0,3] (.block 0 (.keep (kp [(0,0),(3,0)] [] 0) g23l1_c))) (.trim [] (.seq (.ops [mk 2 (kb true)]) (.keep (kp [(2,0)] [] 0) .ret))))))),[.t 2]⟩
abbrev g23_S:=Sys.on [(115,g45_r)] []
@[reducible,simp] def g23l2_F:((List (List Int)×Int) ⊕ (Bool))→Out:=(Sum.elim (fun t=>(.ext 2,[(0,(.vs (rows t.1))),(3,(.int .i64 t.2))],[])) (fun t=>(.ret,[(2,(.bool t))],[])))
def spec_l06Points_l2_b (v7:List (List Int)) (v8:Int) (v9:Int):Option ((Int) ⊕ ((List (List Int)×Int) ⊕ (Bool))):=if 0≤v8 then (v7[(v8).toNat]?).bind fun x10=>if v9 < (x10.length:Int) then if 0≤v8 then (v7[(v8).toNat]?).bind fun x11=>if 0≤v9 then (x11[(v9).toNat]?).bind fun x12=>(spec_l00In x12 0 39).bind fun r13=>if ¬(r13=true) then some (.inr (.inr false)) else some (.inl ((IntKind.i64.wrap (v9+1)))) else none else none else some (.inr (.inl (v7,v8))) else none
theorem g23l2_b_eq  (v7:List (List Int)) (v8:Int) (v9:Int):X g23_S g23l2_cb (keepEnv [0,3,4] [(0,(.vs (rows v7))),(3,(.int .i64 v8)),(4,(.int .i64 v9))]) []=(spec_l06Points_l2_b v7 v8 v9).map (Sum.elim (fun s=>(TX.nrm,[(0,(.vs (rows v7))),(3,(.int .i64 v8)),(4,(.int .i64 s))],[])) g23l2_F):=by
  simp (maxSteps:=2000000) (maxDischargeDepth:=8) -implicitDefEqProofs [g23l2_cb,spec_l06Points_l2_b] <;> (try simp only [map_to_bind,some_elim,g23l2_F])
def spec_l06Points_l2 (v7:List (List Int)) (v8:Int) (s:Int):Option ((List (List Int)×Int) ⊕ (Bool)):=loopO (fun s=>spec_l06Points_l2_b v7 v8 s) s
@[simp] theorem g23l2_eq (y0 y1 y2):X g23_S g23l2_c [(0,(.vs (rows y0))),(3,(.int .i64 y1)),(4,(.int .i64 y2))] []=(spec_l06Points_l2 y0 y1 y2).map g23l2_F:=by
  exact loop_X _ _ _ _ (by intro r;first | (simp;done) | (rcases r with r | r <;> simp;done) | (rcases r with r | r | r <;> simp;done) | (rcases r with r | r | r | r <;> simp)) (fun s=>g23l2_b_eq  y0 y1 s) y2
@[reducible,simp] def g23l1_F:((Unit) ⊕ (Bool))→Out:=(Sum.elim (fun t=>(.ext 0,[],[])) (fun t=>(.ret,[(2,(.bool t))],[])))
def spec_l06Points_l1_b (v2:List (List Int)) (v3:Int):Option ((List (List Int)×Int) ⊕ ((Unit) ⊕ (Bool))):=if v3 < (v2.length:Int) then if 0≤v3 then (v2[(v3).toNat]?).bind fun x4=>if 0≤(0:Int) then (v2[((0:Int)).toNat]?).bind fun x5=>if ¬((x4.length:Int)=(x5.length:Int)) then some (.inr (.inr false)) else if 0≤v3 then (v2[(v3).toNat]?).bind fun x6=>if (x6.length:Int) > 3 then some (.inr (.inr false)) else (spec_l06Points_l2 v2 v3 0).bind fun r14=>Sum.elim (fun u15=>some (.inl (u15.1,(IntKind.i64.wrap (u15.2+1))))) (fun u16=>some (.inr (.inr u16))) r14 else none else none else none else some (.inr (.inl ()))
theorem g23l1_b_eq  (v2:List (List Int)) (v3:Int):X g23_S g23l1_cb (keepEnv [0,3] [(0,(.vs (rows v2))),(3,(.int .i64 v3))]) []=(spec_l06Points_l1_b v2 v3).map (Sum.elim (fun s=>(TX.nrm,[(0,(.vs (rows s.1))),(3,(.int .i64 s.2))],[])) g23l1_F):=by
  simp (maxSteps:=2000000) (maxDischargeDepth:=8) -implicitDefEqProofs [g23l1_cb,spec_l06Points_l1_b] <;> (try simp only [map_to_bind,some_elim,g23l1_F])
def spec_l06Points_l1  (s:List (List Int)×Int):Option ((Unit) ⊕ (Bool)):=loopO (fun s=>spec_l06Points_l1_b  s.1 s.2) s
@[simp] theorem g23l1_eq (y0 y1):X g23_S g23l1_c [(0,(.vs (rows y0))),(3,(.int .i64 y1))] []=(spec_l06Points_l1  (y0,y1)).map g23l1_F:=by
  exact loop_X _ _ _ _ (by intro r;first | (simp;done) | (rcases r with r | r <;> simp;done) | (rcases r with r | r | r <;> simp;done) | (rcases r with r | r | r | r <;> simp)) (fun s=>g23l1_b_eq   s.1 s.2) (y0,y1)
def spec_l06Points (a_list:List (List Int)):Option (Bool):=(spec_l00In ((a_list.length:Int)) 1 24).bind fun r1=>if ¬(r1=true) then some false else (spec_l06Points_l1 ((a_list,0))).bind fun r17=>Sum.elim (fun u18=>some true) (fun u19=>some u19) r17
@[simp] def g23_O:Bool→TV×List Blk:=fun r=>((.bool r),[])
def g23_E (a:List (List Int)):List TV:=[(.vs (rows a))]
theorem g23_run (a_list:List (List Int)) :callFn (X g23_S) g23_tf (g23_E a_list) []=(spec_l06Points a_list).map g23_O:=by
  rw [callFn_eq]
  simp (maxSteps:=2000000) (maxDischargeDepth:=8) -implicitDefEqProofs [g23_tf,spec_l06Points,g23_E] <;> (try simp only [map_to_bind,some_elim,g23_O])
def g23_r:Rule:=RlO g23_E (fun a=>spec_l06Points a) g23_O
theorem g23_ok:RuleOk Tryd.prog 77 g23_r:=ok_rlo (S:=g23_S) (tf:=g23_tf) (SysOk.on ⟨g45_ok,trivial⟩ trivial) (trE_ok (ks:=[[0,3],[15],[0,3,4]]) Tryd.func77 (by kernel_rfl)) fun a=>g23_run a
@[simp] theorem g23_app (y0):g23_r [(.vs (rows y0))]=(spec_l06Points y0).map g23_O :=
  RlO_app (enc:=g23_E) (by intro a b h;simp [g23_E,Prod.ext_iff] at h ⊢;simp [h]) y0
/-! spec.l06Formed -/
def g24p1_c:TC:=(.cond (.t 5) (.seq (.after (.ops [ln 8 6 1,ca 9 75 [.t 8],mo 10 9,⟨(some 11),(some (10,true)),(.faddr 5 (.t 1))⟩,⟨(some 12),(some (10,true)),(.load none (.t 11))⟩,⟨(some 13),(some (10,true)),(.len false (.t 12))⟩,⟨(some 14),(some (10,true)),(.bin .num .eql (.t 13) (ki 0))⟩,pk 15 (.t 10) (.t 14) (kb false),mo 2 15]) (kp [(2,0)] [] 0)) (.keep (kp [(2,0)] [] 0) .ret)) (sq [bn 17 .eql (.t 4) (ki 3),mo 16 17] [1,4,16] (.cond (.t 16) (.seq (.ops [ln 18 6 1,ca 19 76 [.t 18],mo 2 19]) (.keep (kp [(2,0)] [] 0) .ret)) (sq [bn 21 .eql (.t 4) (ki 4),mo 20 21] [1,20] (.cond (.t 20) (.seq (.after (.ops [ln 22 6 1,ca 23 75 [.t 22],mo 24 23,⟨(some 25),(some (24,true)),(.faddr 5 (.t 1))⟩,⟨(some 26),(some (24,true)),(.load none (.t 25))⟩,⟨(some 27),(some (24,true)),(.call 77 [.t 26])⟩,pk 28 (.t 24) (.t 27) (kb false),mo 2 28]) (kp [(2,0)] [] 0)) (.keep (kp [(2,0)] [] 0) .ret)) (.keep (kp [] [] 0) .skip))))))
def g24_tf:TFn:=⟨(sq [bx 1 0,mk 2 (kb false)] [1] (.seq (sq [fa 3 0 1,ld 4 3] [1,4] (.block 0 (.seq (sq [bn 6 .eql (.t 4) (ki 1),mo 5 6] [1,4,5] (.cond (.t 5) (.keep (kp [(1,0),(4,0),(5,0)] [(0,0)] 0) .skip) (.after (.ops [bn 7 .eql (.t 4) (ki 2),mo 5 7]) (kp [(1,0),(4,0),(5,0)] [(0,0)] 0)))) (.trim [1,4,5] g24p1_c)))) (.trim [] (.seq (.ops [mk 2 (kb false)]) (.keep (kp [(2,0)] [] 0) .ret))))),[.t 2]⟩
abbrev g24_S:=Sys.on [(75,g32_r),(76,g38_r),(77,g23_r)] []
@[reducible,simp] def g24p1_F:((Bool) ⊕ (Unit))→Out:=(Sum.elim (fun t=>(.ret,[(2,(.bool t))],[])) (fun t=>(.nrm,[],[])))
def spec_l06Formed_p1 (v1:K0) (v2:Int) (v3:Bool):Option ((Bool) ⊕ (Unit)):=if v3=true then (spec_l06Plain v1).bind fun r4=>if r4=true then some ((.inl ((decide ((v1.2.2.2.2.2.length:Int)=0))))) else some ((.inl false)) else if v2=3 then (spec_l06Slab v1).bind fun r5=>some ((.inl r5)) else if v2=4 then (spec_l06Plain v1).bind fun r6=>if r6=true then (spec_l06Points v1.2.2.2.2.2).bind fun r7=>some ((.inl r7)) else some ((.inl false)) else some ((.inr ()))
@[simp] theorem g24p1_eq (y0 y1 y2 y3 y4 y5 y6 y7):X g24_S g24p1_c [(1,(.ptr 0 0 0)),(4,(.int .i64 y6)),(5,(.bool y7))] [(.live 6 [[(.int .i64 y0),(.vs (rows y1)),(.vs (rows y2)),(.vs (rows y3)),(.vs (rows y4)),(.vs (rows y5))]])]=(spec_l06Formed_p1 ((y0,y1,y2,y3,y4,y5)) y6 y7).map g24p1_F:=by
  simp (maxSteps:=2000000) (maxDischargeDepth:=8) -implicitDefEqProofs [g24p1_c,spec_l06Formed_p1] <;> (try simp only [map_to_bind,some_elim,g24p1_F])
def spec_l06Formed (a_s:K0):Option (Bool):=if a_s.1=1 then (spec_l06Formed_p1 a_s a_s.1 ((decide (a_s.1=1)))).bind fun r8=>Sum.elim (fun u9=>some u9) (fun u10=>some false) r8 else (spec_l06Formed_p1 a_s a_s.1 ((decide (a_s.1=2)))).bind fun r11=>Sum.elim (fun u12=>some u12) (fun u13=>some false) r11
@[simp] def g24_O:Bool→TV×List Blk:=fun r=>((.bool r),[])
def g24_E (a:K0):List TV:=[(.agg [(.int .i64 a.1),(.vs (rows a.2.1)),(.vs (rows a.2.2.1)),(.vs (rows a.2.2.2.1)),(.vs (rows a.2.2.2.2.1)),(.vs (rows a.2.2.2.2.2))])]
theorem g24_run (a_s:K0) :callFn (X g24_S) g24_tf (g24_E a_s) []=(spec_l06Formed a_s).map g24_O:=by
  rw [callFn_eq]
  simp (maxSteps:=2000000) (maxDischargeDepth:=8) -implicitDefEqProofs [g24_tf,spec_l06Formed,g24_E] <;> (try simp only [map_to_bind,some_elim,g24_O])
def g24_r:Rule:=RlO g24_E (fun a=>spec_l06Formed a) g24_O
theorem g24_ok:RuleOk Tryd.prog 35 g24_r:=ok_rlo (S:=g24_S) (tf:=g24_tf) (SysOk.on ⟨g32_ok,g38_ok,g23_ok,trivial⟩ trivial) (trE_ok (ks:=[]) Tryd.func35 (by kernel_rfl)) fun a=>g24_run a
@[simp] theorem g24_app (y0 y1 y2 y3 y4 y5):g24_r [(.agg [(.int .i64 y0),(.vs (rows y1)),(.vs (rows y2)),(.vs (rows y3)),(.vs (rows y4)),(.vs (rows y5))])]=(spec_l06Formed ((y0,y1,y2,y3,y4,y5))).map g24_O :=
  RlO_app (enc:=g24_E) (by intro a b h;simp [g24_E,Prod.ext_iff] at h ⊢;simp [h]) ((y0,y1,y2,y3,y4,y5))
/-! spec.l05Digits -/
def g25_tf:TFn:=⟨(sq [mk 2 (.c (.str []))] [0] (.seq (sq [mo 3 0,bn 4 .lss (.t 3) (ki 0)] [0,4] (.cond (.t 4) (.seq (.ops [mo 5 0,oo 6 (.un .neg (.t 5)),ca 7 78 [.t 6],oo 8 (.bin .str .add (.c (.str [45])) (.t 7)),mo 2 8]) (.keep (kp [(2,0)] [] 0) .ret)) .skip)) (.trim [0] (.seq (sq [mo 9 0,bn 10 .lss (.t 9) (ki 10)] [0,10] (.cond (.t 10) (.seq (.ops [mo 11 0,bn 12 .add (ki 48) (.t 11),oo 13 (.conv (.toInt .u8) (.t 12)),oo 14 (.bslice [(.int .u8 0)] 1 [(0,(.t 13))]),oo 15 (.conv .toStr (.t 14)),mo 2 15]) (.keep (kp [(2,0)] [] 0) .ret)) .skip)) (.trim [0] (.seq (.draw [([],mo 16 0),([0],bn 17 .quo (.t 16) (ki 10)),([0,1],ca 18 78 [.t 17]),([],mo 19 0),([3],bn 20 .rem (.t 19) (ki 10)),([3,4],bn 21 .add (ki 48) (.t 20)),([3,4,5],oo 22 (.conv (.toInt .u8) (.t 21))),([3,4,5,6],oo 23 (.bslice [(.int .u8 0)] 1 [(0,(.t 22))])),([3,4,5,6,7],oo 24 (.conv .toStr (.t 23)))] [oo 25 (.bin .str .add (.t 18) (.t 24)),mo 2 25]) (.keep (kp [(2,0)] [] 0) .ret))))))),[.t 2]⟩
@[simp] def g25_O:Str→TV×List Blk:=fun r=>((.str r),[])
def g25_E (a:Int):List TV:=[(.int .i64 a)]
abbrev spec_l05Digits_R:=(Int→Option (Str))
def spec_l05Digits_q (r:spec_l05Digits_R):Rule:=RlO g25_E (fun a=>r a) g25_O
@[simp] theorem spec_l05Digits_qapp {r:spec_l05Digits_R} (a_n:Int) :(spec_l05Digits_q r) [(.int .i64 a_n)]=(r a_n).map g25_O :=
  RlO_app (enc:=g25_E) (by intro a b h;simp [g25_E,Prod.ext_iff] at h ⊢;simp [h]) a_n
abbrev g25_S (r:spec_l05Digits_R):=Sys.on [(78,spec_l05Digits_q r)] []
def spec_l05Digits_W (r:spec_l05Digits_R) (a_n:Int):Option (Str):=if a_n < 0 then (r ((IntKind.i64.wrap (0 - a_n)))).bind fun r1=>if (([45]:Str)).length+r1.length≤9223372036854775807 then some ((([45]:Str)++r1)) else none else if a_n < 10 then some ((((lit [(⟨UInt8.ofNat ((IntKind.u8.wrap ((IntKind.i64.wrap (48+a_n))))).toNat⟩:Bt)]:List Bt)).map Bt.v)) else (r ((IntKind.i64.wrap (Int.tdiv a_n 10)))).bind fun r2=>if r2.length+((((lit [(⟨UInt8.ofNat ((IntKind.u8.wrap ((IntKind.i64.wrap (48+(Int.tmod a_n 10)))))).toNat⟩:Bt)]:List Bt)).map Bt.v)).length≤9223372036854775807 then some ((r2++(((lit [(⟨UInt8.ofNat ((IntKind.u8.wrap ((IntKind.i64.wrap (48+(Int.tmod a_n 10)))))).toNat⟩:Bt)]:List Bt)).map Bt.v))) else none
theorem g25_run {r:spec_l05Digits_R} (a_n:Int) :callFn (X (g25_S r)) g25_tf (g25_E a_n) []=(spec_l05Digits_W r a_n).map g25_O:=by
  rw [callFn_eq]
  simp (maxSteps:=2000000) (maxDischargeDepth:=8) -implicitDefEqProofs [g25_tf,spec_l05Digits_W,g25_E,bslV_lit (α:=Bt) (zs:=[(.int .u8 0)])] <;> (try simp only [map_to_bind,some_elim,g25_O])
noncomputable def spec_l05Digits_it (n:Nat):spec_l05Digits_R:=Nat.rec (motive:=fun _=>spec_l05Digits_R) (fun _=>none) (fun _ r=>(spec_l05Digits_W r)) n
noncomputable def spec_l05Digits (a_n:Int):Option (Str):=evO fun n=>((spec_l05Digits_it n)) a_n
theorem spec_l05Digits_oks:∀ n,(RuleOk Tryd.prog 78 (spec_l05Digits_q (spec_l05Digits_it n)))
  | 0=>ok_none (tf:=g25_tf) (trE_ok (ks:=[[9]]) Tryd.func78 (by kernel_rfl))
  | n+1=>by
    have ih:=spec_l05Digits_oks n
    exact ok_rlo (S:=(g25_S (spec_l05Digits_it n))) (tf:=g25_tf) (SysOk.on ⟨(ih),trivial⟩ trivial) (trE_ok (ks:=[[9]]) Tryd.func78 (by kernel_rfl)) fun a=>g25_run a
def g25_r:Rule:=RlO g25_E (fun a=>spec_l05Digits a) g25_O
@[simp] theorem g25_app (y0):g25_r [(.int .i64 y0)]=(spec_l05Digits y0).map g25_O :=
  RlO_app (enc:=g25_E) (by intro a b h;simp [g25_E,Prod.ext_iff] at h ⊢;simp [h]) y0
theorem g25_ok:RuleOk Tryd.prog 78 g25_r:=ok_ev fun n=>(spec_l05Digits_oks n)
end
end Go.Proofs.TM
