/- Functions of the program, as functions of their data: written by program. -/
import Derived.Test.YtlajjnljeebkkaaDoorTRec
import Derived.Test.YtlajjnljeebkkaaDoorTShelf
import Derived.Test.YtlajjnljeebkkaaDoorTLib
import Derived.Test.YtlajjnljeebkkaaDoorProg
import Derived.KernelRfl
namespace Go.Proofs.TM
open Go Go.Proofs
set_option linter.unusedVariables false
set_option linter.unusedSimpArgs false
set_option maxHeartbeats 1000000
attribute [-simp] Option.map_bind strV_some
attribute [simp] guardOn_bool sA_bslice Function.comp_def
noncomputable section

/-! spec.l05Split -/
def g28l1_cb:TC:=(.seq (sq [mo 9 7,mo 10 0,oo 11 (.len true (.t 10)),bn 12 .lss (.t 9) (.t 11)] [0,1,5,6,7,12] (.cond (.t 12) .skip (.keep (kp [(0,0),(5,1),(6,0)] [(0,1)] 0) (.exit 0)))) (.trim [0,1,5,6,7] (.seq (.block 1 (sq [mo 15 0,mo 16 7,oo 17 (.index (.t 15) (.t 16)),mo 18 1,bn 19 .eql (.t 17) (.t 18)] [0,1,5,6,7,19] (.cond (.t 19) (sq [mo 20 5,mo 21 0,mo 22 6,mo 23 7,oo 24 (.sliceS (.t 21) (some (.t 22)) (some (.t 23))),oo 25 (.bslice [(.str [])] 1 [(0,(.t 24))]),oo 26 (.append 9 1 16 (.t 20) (.t 25)),mo 5 26] [0,1,5,7] (.after (.ops [mo 27 7,bn 28 .add (.t 27) (ki 1),mo 6 28]) (kp [(0,0),(1,0),(5,1),(6,0),(7,0)] [(2,1)] 0))) (.keep (kp [(0,0),(1,0),(5,1),(6,0),(7,0)] [(0,1)] 0) .skip)))) (.trim [0,1,5,6,7] (.after (.ops [mo 13 7,bn 14 .add (.t 13) (ki 1),mo 7 14]) (kp [(0,0),(1,0),(5,1),(6,0),(7,0)] [(0,1)] 0))))))
def g28l1_c:TC:=.loop [0,1,5,6,7] g28l1_cb
def g28_tf:TFn:=⟨(sq [mk 4 (.c .nils)] [0,1] (sq [oo 8 (.bslice [(.str [])] 0 []),mo 5 8] [0,1,5] (sq [mk 6 (ki 0)] [0,1,5,6] (.seq (sq [mk 7 (ki 0)] [0,1,5,6,7] (.block 0 (.keep (kp [(0,0),(1,0),(5,1),(6,0),(7,0)] [(1000,1)] 0) g28l1_c))) (.trim [0,5,6] (.seq (.ops [mo 29 5,mo 30 0,mo 31 6,oo 32 (.sliceS (.t 30) (some (.t 31)) none),oo 33 (.bslice [(.str [])] 1 [(0,(.t 32))]),oo 34 (.append 9 1 16 (.t 29) (.t 33)),mo 4 34]) (.keep (kp [(4,1)] [(2,1)] 0) .ret))))))),[.t 4]⟩
abbrev g28_S:=Sys.on [] []
@[reducible,simp] def g28l1_F:(Str×List Str×Int)→Out:=(fun t=>(.ext 0,[(0,(.str t.1)),(5,(ow 0 t.2.1.length)),(6,(.int .i64 t.2.2))],[(ob 1 t.2.1)]))
def spec_l05Split_l1_b (v1:Str) (v2:Int) (v3:List Str) (v4:Int) (v5:Int):Option ((List Str×Int×Int) ⊕ (Str×List Str×Int)):=if v5 < (v1.length:Int) then if 0≤v5 then (v1[(v5).toNat]?).bind fun (b6:UInt8)=>if (b6.toNat:Int)=v2 then (subL v1 (some v4) (some v5)).bind fun s7=>(appL 16 v3 ((lit [s7]:List Str))).bind fun l8=>some (.inl (l8,(IntKind.i64.wrap (v5+1)),(IntKind.i64.wrap (v5+1)))) else some (.inl (v3,v4,(IntKind.i64.wrap (v5+1)))) else none else some (.inr (v1,v3,v4))
theorem g28l1_b_eq  (v1:Str) (v2:Int) (v3:List Str) (v4:Int) (v5:Int):X g28_S g28l1_cb (keepEnv [0,1,5,6,7] [(0,(.str v1)),(1,(.int .u8 v2)),(5,(ow 0 v3.length)),(6,(.int .i64 v4)),(7,(.int .i64 v5))]) [(ob 1 v3)]=(spec_l05Split_l1_b v1 v2 v3 v4 v5).map (Sum.elim (fun s=>(TX.nrm,[(0,(.str v1)),(1,(.int .u8 v2)),(5,(ow 0 s.1.length)),(6,(.int .i64 s.2.1)),(7,(.int .i64 s.2.2))],[(ob 1 s.1)])) g28l1_F):=by
  simp (maxSteps:=2000000) (maxDischargeDepth:=8) -implicitDefEqProofs [g28l1_cb,spec_l05Split_l1_b,bslV_lit (α:=Str) (zs:=[(.str [])])] <;> (try simp only [map_to_bind,some_elim,g28l1_F])
def spec_l05Split_l1 (v1:Str) (v2:Int) (s:List Str×Int×Int):Option (Str×List Str×Int):=loopO (fun s=>spec_l05Split_l1_b v1 v2 s.1 s.2.1 s.2.2) s
@[simp] theorem g28l1_eq (y0 y1)(y2:List Str)(y3 y4){n1:Nat}(h1:n1=y2.length):X g28_S g28l1_c [(0,(.str y0)),(1,(.int .u8 y1)),(5,(ow 0 n1)),(6,(.int .i64 y3)),(7,(.int .i64 y4))] [(ob 1 y2)]=(spec_l05Split_l1 y0 y1 (y2,y3,y4)).map g28l1_F:=by
  subst h1
  exact loop_X _ _ _ _ (by intro r;first | (simp;done) | (rcases r with r | r <;> simp;done) | (rcases r with r | r | r <;> simp;done) | (rcases r with r | r | r | r <;> simp)) (fun s=>g28l1_b_eq  y0 y1 s.1 s.2.1 s.2.2) (y2,y3,y4)
@[simp] theorem g28l1_eq_2 (y0 y1 y2 y3):X g28_S g28l1_c [(0,(.str y0)),(1,(.int .u8 y1)),(5,.es),(6,(.int .i64 y2)),(7,(.int .i64 y3))] [.dead]=(spec_l05Split_l1 y0 y1 (([]:List Str),y2,y3)).map g28l1_F :=
  g28l1_eq  y0 y1 ([]:List Str) y2 y3 rfl
def spec_l05Split (a_s:Str) (a_by:Int):Option (List Str):=(spec_l05Split_l1 a_s a_by ((([]:List Str),0,0))).bind fun r9=>(subL r9.1 (some r9.2.2) none).bind fun s10=>(appL 16 r9.2.1 ((lit [s10]:List Str))).bind fun l11=>some l11
@[simp] def g28_O:List Str→TV×List Blk:=fun r=>((ow 0 r.length),[(ob 1 r)])
def g28_E (a:Str×Int):List TV:=[(.str a.1),(.int .u8 a.2)]
theorem g28_run (a_s:Str) (a_by:Int) :callFn (X g28_S) g28_tf (g28_E (a_s,a_by)) []=(spec_l05Split a_s a_by).map g28_O:=by
  rw [callFn_eq]
  simp (maxSteps:=2000000) (maxDischargeDepth:=8) -implicitDefEqProofs [g28_tf,spec_l05Split,g28_E,bslV_lit (α:=Str) (zs:=[(.str [])])] <;> (try simp only [map_to_bind,some_elim,g28_O])
def g28_r:Rule:=RlO g28_E (fun a=>spec_l05Split a.1 a.2) g28_O
theorem g28_ok:RuleOk Tryd.prog 43 g28_r:=ok_rlo (S:=g28_S) (tf:=g28_tf) (SysOk.on trivial trivial) (trE_ok (ks:=[[0,1,5,6,7]]) Tryd.func43 (by kernel_rfl)) fun a=>g28_run a.1 a.2
@[simp] theorem g28_app (y0 y1):g28_r [(.str y0),(.int .u8 y1)]=(spec_l05Split y0 y1).map g28_O :=
  RlO_app (enc:=g28_E) (by intro a b h;simp [g28_E,Prod.ext_iff] at h ⊢;simp [h]) (y0,y1)
/-! spec.l05Number -/
def g20l1_cb:TC:=(.seq (sq [mo 13 4,mo 14 0,oo 15 (.len true (.t 14)),bn 16 .lss (.t 13) (.t 15)] [0,3,4,16] (.cond (.t 16) .skip (.keep (kp [(3,0)] [] 0) (.exit 0)))) (.trim [0,3,4] (.seq (.block 1 (.seq (sq [mo 19 0,mo 20 4,oo 21 (.index (.t 19) (.t 20)),oo 22 (.bin .num .lss (.t 21) (.c (.int .u8 48))),mo 23 22,⟨(some 24),(some (23,false)),(.mv (.t 0))⟩,⟨(some 25),(some (23,false)),(.mv (.t 4))⟩,⟨(some 26),(some (23,false)),(.index (.t 24) (.t 25))⟩,⟨(some 27),(some (23,false)),(.bin .num .gtr (.t 26) (.c (.int .u8 57)))⟩,pk 28 (.t 23) (kb true) (.t 27)] [0,3,4,28] (.cond (.t 28) (.seq (.ops [mk 2 (ki (-1))]) (.keep (kp [(2,0)] [] 0) .ret)) .skip)) (.trim [0,3,4] (.ops [mo 29 3,bn 30 .mul (ki 10) (.t 29),mo 31 0,mo 32 4,oo 33 (.index (.t 31) (.t 32)),oo 34 (.bin .num .sub (.t 33) (.c (.int .u8 48))),oo 35 (.conv (.toInt .i64) (.t 34)),bn 36 .add (.t 30) (.t 35),mo 3 36])))) (.trim [0,3,4] (.after (.ops [mo 17 4,bn 18 .add (.t 17) (ki 1),mo 4 18]) (kp [(0,0),(3,0),(4,0)] [] 0))))))
def g20l1_c:TC:=.loop [0,3,4] g20l1_cb
def g20_tf:TFn:=⟨(sq [mk 2 (ki 0)] [0] (.seq (sq [mo 5 0,oo 6 (.len true (.t 5)),bn 7 .lss (.t 6) (ki 1),mo 8 7,⟨(some 9),(some (8,false)),(.mv (.t 0))⟩,⟨(some 10),(some (8,false)),(.len true (.t 9))⟩,⟨(some 11),(some (8,false)),(.bin .num .gtr (.t 10) (ki 6))⟩,pk 12 (.t 8) (kb true) (.t 11)] [0,12] (.cond (.t 12) (.seq (.ops [mk 2 (ki (-1))]) (.keep (kp [(2,0)] [] 0) .ret)) .skip)) (.trim [0] (sq [mk 3 (ki 0)] [0,3] (.seq (sq [mk 4 (ki 0)] [0,3,4] (.block 0 (.keep (kp [(0,0),(3,0),(4,0)] [] 0) g20l1_c))) (.trim [3] (.seq (.ops [mo 37 3,mo 2 37]) (.keep (kp [(2,0)] [] 0) .ret)))))))),[.t 2]⟩
abbrev g20_S:=Sys.on [] []
@[reducible,simp] def g20l1_F:((Int) ⊕ (Int))→Out:=(Sum.elim (fun t=>(.ext 0,[(3,(.int .i64 t))],[])) (fun t=>(.ret,[(2,(.int .i64 t))],[])))
def spec_l05Number_l1_b (v1:Str) (v2:Int) (v3:Int):Option ((Int×Int) ⊕ ((Int) ⊕ (Int))):=if v3 < (v1.length:Int) then if 0≤v3 then (v1[(v3).toNat]?).bind fun (b4:UInt8)=>if (b4.toNat:Int) < 48 then some (.inr (.inr ((-1)))) else if 0≤v3 then (v1[(v3).toNat]?).bind fun (b5:UInt8)=>if (b5.toNat:Int) > 57 then some (.inr (.inr ((-1)))) else if 0≤v3 then (v1[(v3).toNat]?).bind fun (b6:UInt8)=>some (.inl ((IntKind.i64.wrap ((IntKind.i64.wrap (10 * v2))+(IntKind.i64.wrap ((IntKind.u8.wrap ((b6.toNat:Int) - 48)))))),(IntKind.i64.wrap (v3+1)))) else none else none else none else some (.inr (.inl v2))
theorem g20l1_b_eq  (v1:Str) (v2:Int) (v3:Int):X g20_S g20l1_cb (keepEnv [0,3,4] [(0,(.str v1)),(3,(.int .i64 v2)),(4,(.int .i64 v3))]) []=(spec_l05Number_l1_b v1 v2 v3).map (Sum.elim (fun s=>(TX.nrm,[(0,(.str v1)),(3,(.int .i64 s.1)),(4,(.int .i64 s.2))],[])) g20l1_F):=by
  simp (maxSteps:=2000000) (maxDischargeDepth:=8) -implicitDefEqProofs [g20l1_cb,spec_l05Number_l1_b] <;> (try simp only [map_to_bind,some_elim,g20l1_F])
def spec_l05Number_l1 (v1:Str) (s:Int×Int):Option ((Int) ⊕ (Int)):=loopO (fun s=>spec_l05Number_l1_b v1 s.1 s.2) s
@[simp] theorem g20l1_eq (y0 y1 y2):X g20_S g20l1_c [(0,(.str y0)),(3,(.int .i64 y1)),(4,(.int .i64 y2))] []=(spec_l05Number_l1 y0 (y1,y2)).map g20l1_F:=by
  exact loop_X _ _ _ _ (by intro r;first | (simp;done) | (rcases r with r | r <;> simp;done) | (rcases r with r | r | r <;> simp;done) | (rcases r with r | r | r | r <;> simp)) (fun s=>g20l1_b_eq  y0 s.1 s.2) (y1,y2)
def spec_l05Number (a_s:Str):Option (Int):=if (a_s.length:Int) < 1 then some ((-1)) else if (a_s.length:Int) > 6 then some ((-1)) else (spec_l05Number_l1 a_s ((0,0))).bind fun r7=>Sum.elim (fun u8=>some u8) (fun u9=>some u9) r7
@[simp] def g20_O:Int→TV×List Blk:=fun r=>((.int .i64 r),[])
def g20_E (a:Str):List TV:=[(.str a)]
theorem g20_run (a_s:Str) :callFn (X g20_S) g20_tf (g20_E a_s) []=(spec_l05Number a_s).map g20_O:=by
  rw [callFn_eq]
  simp (maxSteps:=2000000) (maxDischargeDepth:=8) -implicitDefEqProofs [g20_tf,spec_l05Number,g20_E] <;> (try simp only [map_to_bind,some_elim,g20_O])
def g20_r:Rule:=RlO g20_E (fun a=>spec_l05Number a) g20_O
theorem g20_ok:RuleOk Tryd.prog 44 g20_r:=ok_rlo (S:=g20_S) (tf:=g20_tf) (SysOk.on trivial trivial) (trE_ok (ks:=[[0,3,4]]) Tryd.func44 (by kernel_rfl)) fun a=>g20_run a
@[simp] theorem g20_app (y0):g20_r [(.str y0)]=(spec_l05Number y0).map g20_O :=
  RlO_app (enc:=g20_E) (by intro a b h;simp [g20_E,Prod.ext_iff] at h ⊢;simp [h]) y0
/-! spec.l00In -/
def g38_tf:TFn:=⟨(sq [mk 6 (kb false)] [0,1,2] (.seq (.after (.ops [mo 7 0,mo 8 1,bn 9 .geq (.t 7) (.t 8),mo 10 9,⟨(some 11),(some (10,true)),(.mv (.t 0))⟩,⟨(some 12),(some (10,true)),(.mv (.t 2))⟩,⟨(some 13),(some (10,true)),(.bin .num .leq (.t 11) (.t 12))⟩,pk 14 (.t 10) (.t 13) (kb false),mo 6 14]) (kp [(6,0)] [] 0)) (.keep (kp [(6,0)] [] 0) .ret))),[.t 6]⟩
abbrev g38_S:=Sys.on [] []
def spec_l00In (a_n:Int) (a_low:Int) (a_high:Int):Option (Bool):=if a_n ≥ a_low then some ((decide (a_n≤a_high))) else some false
@[simp] def g38_O:Bool→TV×List Blk:=fun r=>((.bool r),[])
def g38_E (a:Int×Int×Int):List TV:=[(.int .i64 a.1),(.int .i64 a.2.1),(.int .i64 a.2.2)]
theorem g38_run (a_n:Int) (a_low:Int) (a_high:Int) :callFn (X g38_S) g38_tf (g38_E (a_n,a_low,a_high)) []=(spec_l00In a_n a_low a_high).map g38_O:=by
  rw [callFn_eq]
  simp (maxSteps:=2000000) (maxDischargeDepth:=8) -implicitDefEqProofs [g38_tf,spec_l00In,g38_E] <;> (try simp only [map_to_bind,some_elim,g38_O])
def g38_r:Rule:=RlO g38_E (fun a=>spec_l00In a.1 a.2.1 a.2.2) g38_O
theorem g38_ok:RuleOk Tryd.prog 115 g38_r:=ok_rlo (S:=g38_S) (tf:=g38_tf) (SysOk.on trivial trivial) (trE_ok (ks:=[]) Tryd.func115 (by kernel_rfl)) fun a=>g38_run a.1 a.2.1 a.2.2
@[simp] theorem g38_app (y0 y1 y2):g38_r [(.int .i64 y0),(.int .i64 y1),(.int .i64 y2)]=(spec_l00In y0 y1 y2).map g38_O :=
  RlO_app (enc:=g38_E) (by intro a b h;simp [g38_E,Prod.ext_iff] at h ⊢;simp [h]) (y0,y1,y2)
/-! spec.l05Dims -/
def g31l1_cb:TC:=(.seq (sq [mo 8 4,mo 9 0,le 10 9,bn 11 .lss (.t 8) (.t 10)] [0,3,4,11] (.cond (.t 11) .skip (.keep (kp [(3,0)] [] 0) (.exit 0)))) (.trim [0,3,4] (.seq (.block 1 (.seq (sq [mo 14 0,mo 15 4,ia 16 1 14 15,ld 17 16,ca 18 115 [.t 17,ki 0,ki 40],nt 19 18] [0,3,4,19] (.cond (.t 19) (.seq (.ops [mk 2 (kb false)]) (.keep (kp [(2,0)] [] 0) .ret)) .skip)) (.trim [0,3,4] (.ops [mo 20 3,mo 21 0,mo 22 4,ia 23 1 21 22,ld 24 23,bn 25 .mul (.t 20) (.t 24),mo 3 25])))) (.trim [0,3,4] (.after (.ops [mo 12 4,bn 13 .add (.t 12) (ki 1),mo 4 13]) (kp [(0,0),(3,0),(4,0)] [] 0))))))
def g31l1_c:TC:=.loop [0,3,4] g31l1_cb
def g31_tf:TFn:=⟨(sq [mk 2 (kb false)] [0] (.seq (sq [mo 5 0,le 6 5,bn 7 .gtr (.t 6) (ki 3)] [0,7] (.cond (.t 7) (.seq (.ops [mk 2 (kb false)]) (.keep (kp [(2,0)] [] 0) .ret)) .skip)) (.trim [0] (sq [mk 3 (ki 1)] [0,3] (.seq (sq [mk 4 (ki 0)] [0,3,4] (.block 0 (.keep (kp [(0,0),(3,0),(4,0)] [] 0) g31l1_c))) (.trim [3] (.seq (.ops [mo 26 3,bn 27 .leq (.t 26) (ki 600),mo 2 27]) (.keep (kp [(2,0)] [] 0) .ret)))))))),[.t 2]⟩
abbrev g31_S:=Sys.on [(115,g38_r)] []
@[reducible,simp] def g31l1_F:((Int) ⊕ (Bool))→Out:=(Sum.elim (fun t=>(.ext 0,[(3,(.int .i64 t))],[])) (fun t=>(.ret,[(2,(.bool t))],[])))
def spec_l05Dims_l1_b (v1:List Int) (v2:Int) (v3:Int):Option ((Int×Int) ⊕ ((Int) ⊕ (Bool))):=if v3 < (v1.length:Int) then if 0≤v3 then (v1[(v3).toNat]?).bind fun x4=>(spec_l00In x4 0 40).bind fun r5=>if ¬(r5=true) then some (.inr (.inr false)) else if 0≤v3 then (v1[(v3).toNat]?).bind fun x6=>some (.inl ((IntKind.i64.wrap (v2 * x6)),(IntKind.i64.wrap (v3+1)))) else none else none else some (.inr (.inl v2))
theorem g31l1_b_eq  (v1:List Int) (v2:Int) (v3:Int):X g31_S g31l1_cb (keepEnv [0,3,4] [(0,(.vs (rows v1))),(3,(.int .i64 v2)),(4,(.int .i64 v3))]) []=(spec_l05Dims_l1_b v1 v2 v3).map (Sum.elim (fun s=>(TX.nrm,[(0,(.vs (rows v1))),(3,(.int .i64 s.1)),(4,(.int .i64 s.2))],[])) g31l1_F):=by
  simp (maxSteps:=2000000) (maxDischargeDepth:=8) -implicitDefEqProofs [g31l1_cb,spec_l05Dims_l1_b] <;> (try simp only [map_to_bind,some_elim,g31l1_F])
def spec_l05Dims_l1 (v1:List Int) (s:Int×Int):Option ((Int) ⊕ (Bool)):=loopO (fun s=>spec_l05Dims_l1_b v1 s.1 s.2) s
@[simp] theorem g31l1_eq (y0 y1 y2):X g31_S g31l1_c [(0,(.vs (rows y0))),(3,(.int .i64 y1)),(4,(.int .i64 y2))] []=(spec_l05Dims_l1 y0 (y1,y2)).map g31l1_F:=by
  exact loop_X _ _ _ _ (by intro r;first | (simp;done) | (rcases r with r | r <;> simp;done) | (rcases r with r | r | r <;> simp;done) | (rcases r with r | r | r | r <;> simp)) (fun s=>g31l1_b_eq  y0 s.1 s.2) (y1,y2)
def spec_l05Dims (a_dims:List Int):Option (Bool):=if (a_dims.length:Int) > 3 then some false else (spec_l05Dims_l1 a_dims ((1,0))).bind fun r7=>Sum.elim (fun u8=>some ((decide (u8≤600)))) (fun u9=>some u9) r7
@[simp] def g31_O:Bool→TV×List Blk:=fun r=>((.bool r),[])
def g31_E (a:List Int):List TV:=[(.vs (rows a))]
theorem g31_run (a_dims:List Int) :callFn (X g31_S) g31_tf (g31_E a_dims) []=(spec_l05Dims a_dims).map g31_O:=by
  rw [callFn_eq]
  simp (maxSteps:=2000000) (maxDischargeDepth:=8) -implicitDefEqProofs [g31_tf,spec_l05Dims,g31_E] <;> (try simp only [map_to_bind,some_elim,g31_O])
def g31_r:Rule:=RlO g31_E (fun a=>spec_l05Dims a) g31_O
theorem g31_ok:RuleOk Tryd.prog 113 g31_r:=ok_rlo (S:=g31_S) (tf:=g31_tf) (SysOk.on ⟨g38_ok,trivial⟩ trivial) (trE_ok (ks:=[[0,3,4]]) Tryd.func113 (by kernel_rfl)) fun a=>g31_run a
@[simp] theorem g31_app (y0):g31_r [(.vs (rows y0))]=(spec_l05Dims y0).map g31_O :=
  RlO_app (enc:=g31_E) (by intro a b h;simp [g31_E,Prod.ext_iff] at h ⊢;simp [h]) y0
/-! spec.l05Space -/
def g29l1_cb:TC:=(.seq (sq [mo 17 3,fa 18 1 1,ld 19 18,le 20 19,bn 21 .lss (.t 17) (.t 20)] [1,3,21] (.cond (.t 21) .skip (.keep (kp [] [] 0) (.exit 0)))) (.trim [1,3] (.seq (.block 1 (.seq (.draw [([],fa 24 1 1),([0],ld 25 24),([],mo 26 3),([0,1,2],ia 27 1 25 26),([0,1,2,3],ld 28 27),([0,1,2,3,4],bn 29 .neq (.t 28) (ki (-1))),([0,1,2,3,4,5],mo 30 29),([0,1,2,3,4,5,6],⟨(some 31),(some (30,true)),(.faddr 1 (.t 1))⟩),([0,1,2,3,4,5,6,7],⟨(some 32),(some (30,true)),(.load none (.t 31))⟩),([0,1,2,3,4,5,6],⟨(some 33),(some (30,true)),(.mv (.t 3))⟩),([0,1,2,3,4,5,6,7,8,9],⟨(some 34),(some (30,true)),(.iaddr 1 (.t 32) (.t 33))⟩),([0,1,2,3,4,5,6,7,8,9,10],⟨(some 35),(some (30,true)),(.load none (.t 34))⟩),([0,1,2,3,4,5,6],⟨(some 36),(some (30,true)),(.faddr 0 (.t 1))⟩),([0,1,2,3,4,5,6,12],⟨(some 37),(some (30,true)),(.load none (.t 36))⟩),([0,1,2,3,4,5,6],⟨(some 38),(some (30,true)),(.mv (.t 3))⟩),([0,1,2,3,4,5,6,12,13,14],⟨(some 39),(some (30,true)),(.iaddr 1 (.t 37) (.t 38))⟩),([0,1,2,3,4,5,6,12,13,14,15],⟨(some 40),(some (30,true)),(.load none (.t 39))⟩)] [⟨(some 41),(some (30,true)),(.call 115 [.t 35,.t 40,ki 40])⟩,⟨(some 42),(some (30,true)),(.un .not (.t 41))⟩,pk 43 (.t 30) (.t 42) (kb false)]) (.trim [1,3,43] (.cond (.t 43) (.seq (.ops [mk 2 (kb false)]) (.keep (kp [(2,0)] [] 0) .ret)) (.keep (kp [(1,0),(3,0)] [(0,0)] 0) .skip))))) (.trim [1,3] (.after (.ops [mo 22 3,bn 23 .add (.t 22) (ki 1),mo 3 23]) (kp [(1,0),(3,0)] [(0,0)] 0))))))
def g29l1_c:TC:=.loop [1,3] g29l1_cb
def g29_tf:TFn:=⟨(sq [bx 1 0,mk 2 (kb false)] [1] (.seq (sq [fa 4 0 1,ld 5 4,ca 6 113 [.t 5],nt 7 6,mo 8 7,⟨(some 9),(some (8,false)),(.faddr 1 (.t 1))⟩,⟨(some 10),(some (8,false)),(.load none (.t 9))⟩,⟨(some 11),(some (8,false)),(.len false (.t 10))⟩,⟨(some 12),(some (8,false)),(.faddr 0 (.t 1))⟩,⟨(some 13),(some (8,false)),(.load none (.t 12))⟩,⟨(some 14),(some (8,false)),(.len false (.t 13))⟩,⟨(some 15),(some (8,false)),(.bin .num .neq (.t 11) (.t 14))⟩,pk 16 (.t 8) (kb true) (.t 15)] [1,16] (.cond (.t 16) (.seq (.ops [mk 2 (kb false)]) (.keep (kp [(2,0)] [] 0) .ret)) .skip)) (.trim [1] (.seq (sq [mk 3 (ki 0)] [1,3] (.block 0 (.keep (kp [(1,0),(3,0)] [(0,0)] 0) g29l1_c))) (.trim [] (.seq (.ops [mk 2 (kb true)]) (.keep (kp [(2,0)] [] 0) .ret))))))),[.t 2]⟩
abbrev g29_S:=Sys.on [(113,g31_r),(115,g38_r)] []
@[reducible,simp] def g29l1_F:((Unit) ⊕ (Bool))→Out:=(Sum.elim (fun t=>(.ext 0,[],[])) (fun t=>(.ret,[(2,(.bool t))],[])))
def spec_l05Space_l1_b (v2:List Int×List Int) (v3:Int):Option ((Int) ⊕ ((Unit) ⊕ (Bool))):=if v3 < (v2.2.length:Int) then if 0≤v3 then (v2.2[(v3).toNat]?).bind fun x4=>if ¬(x4=(-1)) then if 0≤v3 then (v2.2[(v3).toNat]?).bind fun x5=>if 0≤v3 then (v2.1[(v3).toNat]?).bind fun x6=>(spec_l00In x5 x6 40).bind fun r7=>if ¬(r7=true) then some (.inr (.inr false)) else some (.inl ((IntKind.i64.wrap (v3+1)))) else none else none else some (.inl ((IntKind.i64.wrap (v3+1)))) else none else some (.inr (.inl ()))
theorem g29l1_b_eq  (v2:List Int×List Int) (v3:Int):X g29_S g29l1_cb (keepEnv [1,3] [(1,(.ptr 0 0 0)),(3,(.int .i64 v3))]) [(.live 2 [[(.vs (rows v2.1)),(.vs (rows v2.2))]])]=(spec_l05Space_l1_b v2 v3).map (Sum.elim (fun s=>(TX.nrm,[(1,(.ptr 0 0 0)),(3,(.int .i64 s))],[(.live 2 [[(.vs (rows v2.1)),(.vs (rows v2.2))]])])) g29l1_F):=by
  simp (maxSteps:=2000000) (maxDischargeDepth:=8) -implicitDefEqProofs [g29l1_cb,spec_l05Space_l1_b] <;> (try simp only [map_to_bind,some_elim,g29l1_F])
def spec_l05Space_l1 (v2:List Int×List Int) (s:Int):Option ((Unit) ⊕ (Bool)):=loopO (fun s=>spec_l05Space_l1_b v2 s) s
@[simp] theorem g29l1_eq (y0 y1 y2):X g29_S g29l1_c [(1,(.ptr 0 0 0)),(3,(.int .i64 y2))] [(.live 2 [[(.vs (rows y0)),(.vs (rows y1))]])]=(spec_l05Space_l1 ((y0,y1)) y2).map g29l1_F:=by
  exact loop_X _ _ _ _ (by intro r;first | (simp;done) | (rcases r with r | r <;> simp;done) | (rcases r with r | r | r <;> simp;done) | (rcases r with r | r | r | r <;> simp)) (fun s=>g29l1_b_eq  ((y0,y1)) s) y2
def spec_l05Space (a_s:List Int×List Int):Option (Bool):=(spec_l05Dims a_s.1).bind fun r1=>if ¬(r1=true) then some false else if ¬((a_s.2.length:Int)=(a_s.1.length:Int)) then some false else (spec_l05Space_l1 a_s 0).bind fun r8=>Sum.elim (fun u9=>some true) (fun u10=>some u10) r8
@[simp] def g29_O:Bool→TV×List Blk:=fun r=>((.bool r),[])
def g29_E (a:(List Int×List Int)):List TV:=[(.agg [(.vs (rows a.1)),(.vs (rows a.2))])]
theorem g29_run (a_s:List Int×List Int) :callFn (X g29_S) g29_tf (g29_E a_s) []=(spec_l05Space a_s).map g29_O:=by
  rw [callFn_eq]
  simp (maxSteps:=2000000) (maxDischargeDepth:=8) -implicitDefEqProofs [g29_tf,spec_l05Space,g29_E] <;> (try simp only [map_to_bind,some_elim,g29_O])
def g29_r:Rule:=RlO g29_E (fun a=>spec_l05Space a) g29_O
theorem g29_ok:RuleOk Tryd.prog 87 g29_r:=ok_rlo (S:=g29_S) (tf:=g29_tf) (SysOk.on ⟨g31_ok,g38_ok,trivial⟩ trivial) (trE_ok (ks:=[[1,3],[17]]) Tryd.func87 (by kernel_rfl)) fun a=>g29_run a
@[simp] theorem g29_app (y0 y1):g29_r [(.agg [(.vs (rows y0)),(.vs (rows y1))])]=(spec_l05Space ((y0,y1))).map g29_O :=
  RlO_app (enc:=g29_E) (by intro a b h;simp [g29_E,Prod.ext_iff] at h ⊢;simp [h]) ((y0,y1))
/-! spec.l05Digits -/
def g21_tf:TFn:=⟨(sq [mk 2 (.c (.str []))] [0] (.seq (sq [mo 3 0,bn 4 .lss (.t 3) (ki 0)] [0,4] (.cond (.t 4) (.seq (.ops [mo 5 0,oo 6 (.un .neg (.t 5)),ca 7 78 [.t 6],oo 8 (.bin .str .add (.c (.str [45])) (.t 7)),mo 2 8]) (.keep (kp [(2,0)] [] 0) .ret)) .skip)) (.trim [0] (.seq (sq [mo 9 0,bn 10 .lss (.t 9) (ki 10)] [0,10] (.cond (.t 10) (.seq (.ops [mo 11 0,bn 12 .add (ki 48) (.t 11),oo 13 (.conv (.toInt .u8) (.t 12)),oo 14 (.bslice [(.int .u8 0)] 1 [(0,(.t 13))]),oo 15 (.conv .toStr (.t 14)),mo 2 15]) (.keep (kp [(2,0)] [] 0) .ret)) .skip)) (.trim [0] (.seq (.draw [([],mo 16 0),([0],bn 17 .quo (.t 16) (ki 10)),([0,1],ca 18 78 [.t 17]),([],mo 19 0),([3],bn 20 .rem (.t 19) (ki 10)),([3,4],bn 21 .add (ki 48) (.t 20)),([3,4,5],oo 22 (.conv (.toInt .u8) (.t 21))),([3,4,5,6],oo 23 (.bslice [(.int .u8 0)] 1 [(0,(.t 22))])),([3,4,5,6,7],oo 24 (.conv .toStr (.t 23)))] [oo 25 (.bin .str .add (.t 18) (.t 24)),mo 2 25]) (.keep (kp [(2,0)] [] 0) .ret))))))),[.t 2]⟩
@[simp] def g21_O:Str→TV×List Blk:=fun r=>((.str r),[])
def g21_E (a:Int):List TV:=[(.int .i64 a)]
abbrev spec_l05Digits_R:=(Int→Option (Str))
def spec_l05Digits_q (r:spec_l05Digits_R):Rule:=RlO g21_E (fun a=>r a) g21_O
@[simp] theorem spec_l05Digits_qapp {r:spec_l05Digits_R} (a_n:Int) :(spec_l05Digits_q r) [(.int .i64 a_n)]=(r a_n).map g21_O :=
  RlO_app (enc:=g21_E) (by intro a b h;simp [g21_E,Prod.ext_iff] at h ⊢;simp [h]) a_n
abbrev g21_S (r:spec_l05Digits_R):=Sys.on [(78,spec_l05Digits_q r)] []
def spec_l05Digits_W (r:spec_l05Digits_R) (a_n:Int):Option (Str):=if a_n < 0 then (r ((IntKind.i64.wrap (0 - a_n)))).bind fun r1=>if (([45]:Str)).length+r1.length≤9223372036854775807 then some ((([45]:Str)++r1)) else none else if a_n < 10 then some ((((lit [(⟨UInt8.ofNat ((IntKind.u8.wrap ((IntKind.i64.wrap (48+a_n))))).toNat⟩:Bt)]:List Bt)).map Bt.v)) else (r ((IntKind.i64.wrap (Int.tdiv a_n 10)))).bind fun r2=>if r2.length+((((lit [(⟨UInt8.ofNat ((IntKind.u8.wrap ((IntKind.i64.wrap (48+(Int.tmod a_n 10)))))).toNat⟩:Bt)]:List Bt)).map Bt.v)).length≤9223372036854775807 then some ((r2++(((lit [(⟨UInt8.ofNat ((IntKind.u8.wrap ((IntKind.i64.wrap (48+(Int.tmod a_n 10)))))).toNat⟩:Bt)]:List Bt)).map Bt.v))) else none
theorem g21_run {r:spec_l05Digits_R} (a_n:Int) :callFn (X (g21_S r)) g21_tf (g21_E a_n) []=(spec_l05Digits_W r a_n).map g21_O:=by
  rw [callFn_eq]
  simp (maxSteps:=2000000) (maxDischargeDepth:=8) -implicitDefEqProofs [g21_tf,spec_l05Digits_W,g21_E,bslV_lit (α:=Bt) (zs:=[(.int .u8 0)])] <;> (try simp only [map_to_bind,some_elim,g21_O])
noncomputable def spec_l05Digits_it (n:Nat):spec_l05Digits_R:=Nat.rec (motive:=fun _=>spec_l05Digits_R) (fun _=>none) (fun _ r=>(spec_l05Digits_W r)) n
noncomputable def spec_l05Digits (a_n:Int):Option (Str):=evO fun n=>((spec_l05Digits_it n)) a_n
theorem spec_l05Digits_oks:∀ n,(RuleOk Tryd.prog 78 (spec_l05Digits_q (spec_l05Digits_it n)))
  | 0=>ok_none (tf:=g21_tf) (trE_ok (ks:=[[9]]) Tryd.func78 (by kernel_rfl))
  | n+1=>by
    have ih:=spec_l05Digits_oks n
    exact ok_rlo (S:=(g21_S (spec_l05Digits_it n))) (tf:=g21_tf) (SysOk.on ⟨(ih),trivial⟩ trivial) (trE_ok (ks:=[[9]]) Tryd.func78 (by kernel_rfl)) fun a=>g21_run a
def g21_r:Rule:=RlO g21_E (fun a=>spec_l05Digits a) g21_O
@[simp] theorem g21_app (y0):g21_r [(.int .i64 y0)]=(spec_l05Digits y0).map g21_O :=
  RlO_app (enc:=g21_E) (by intro a b h;simp [g21_E,Prod.ext_iff] at h ⊢;simp [h]) y0
theorem g21_ok:RuleOk Tryd.prog 78 g21_r:=ok_ev fun n=>(spec_l05Digits_oks n)
/-! spec.SpaceText -/
def g22p2_c:TC:=(sq [mo 19 3,fa 20 0 1,ld 21 20,mo 22 4,ia 23 1 21 22,ld 24 23,ca 25 78 [.t 24],oo 26 (.bin .str .add (.t 19) (.t 25)),mo 3 26] [1,3,4] (sq [fa 27 1 1,ld 28 27,mo 29 4,ia 30 1 28 29,ld 31 30] [1,3,4,31] (.block 2 (sq [fa 42 0 1,ld 43 42,mo 44 4,ia 45 1 43 44,ld 46 45,bn 47 .eql (.t 31) (.t 46),mo 41 47] [1,3,4,31,41] (.cond (.t 41) (.keep (kp [(1,0),(3,0),(4,0)] [(0,0)] 0) .skip) (sq [bn 49 .eql (.t 31) (ki (-1)),mo 48 49] [1,3,4,48] (.cond (.t 48) (.after (.ops [mo 50 3,oo 51 (.bin .str .add (.t 50) (.c (.str [47,42]))),mo 3 51]) (kp [(1,0),(3,0),(4,0)] [(0,0)] 0)) (.after (.ops [mo 32 3,fa 33 1 1,ld 34 33,mo 35 4,ia 36 1 34 35,ld 37 36,ca 38 78 [.t 37],oo 39 (.bin .str .add (.c (.str [47])) (.t 38)),oo 40 (.bin .str .add (.t 32) (.t 39)),mo 3 40]) (kp [(1,0),(3,0),(4,0)] [(0,0)] 0)))))))))
def g22l1_cb:TC:=(.seq (sq [mo 8 4,fa 9 0 1,ld 10 9,le 11 10,bn 12 .lss (.t 8) (.t 11)] [1,3,4,12] (.cond (.t 12) .skip (.keep (kp [(3,0)] [] 0) (.exit 0)))) (.trim [1,3,4] (.seq (.block 1 (.seq (sq [mo 15 4,bn 16 .gtr (.t 15) (ki 0)] [1,3,4,16] (.cond (.t 16) (.after (.ops [mo 17 3,oo 18 (.bin .str .add (.t 17) (.c (.str [44]))),mo 3 18]) (kp [(1,0),(3,0),(4,0)] [(0,0)] 0)) (.keep (kp [(1,0),(3,0),(4,0)] [(0,0)] 0) .skip))) (.trim [1,3,4] g22p2_c))) (.trim [1,3,4] (.after (.ops [mo 13 4,bn 14 .add (.t 13) (ki 1),mo 4 14]) (kp [(1,0),(3,0),(4,0)] [(0,0)] 0))))))
def g22l1_c:TC:=.loop [1,3,4] g22l1_cb
def g22_tf:TFn:=⟨(sq [bx 1 0,mk 2 (.c (.str []))] [1] (.seq (sq [ln 5 2 1,ca 6 87 [.t 5],nt 7 6] [1,7] (.cond (.t 7) (.seq (.ops [mk 2 (.c (.str []))]) (.keep (kp [(2,0)] [] 0) .ret)) .skip)) (.trim [1] (sq [mk 3 (.c (.str []))] [1,3] (.seq (sq [mk 4 (ki 0)] [1,3,4] (.block 0 (.keep (kp [(1,0),(3,0),(4,0)] [(0,0)] 0) g22l1_c))) (.trim [3] (.seq (.ops [mo 52 3,oo 53 (.bin .str .add (.c (.str [40])) (.t 52)),oo 54 (.bin .str .add (.t 53) (.c (.str [41]))),mo 2 54]) (.keep (kp [(2,0)] [] 0) .ret)))))))),[.t 2]⟩
abbrev g22_S:=Sys.on [(87,g29_r),(78,g21_r)] []
@[reducible,simp] def g22p2_F:((List Int×List Int)×Str×Int)→Out:=(fun t=>(.nrm,[(1,(.ptr 0 0 0)),(3,(.str t.2.1)),(4,(.int .i64 t.2.2))],[(.live 2 [[(.vs (rows t.1.1)),(.vs (rows t.1.2))]])]))
def spec_SpaceText_p2 (v5:List Int×List Int) (v6:Str) (v7:Int):Option ((List Int×List Int)×Str×Int):=if 0≤v7 then (v5.1[(v7).toNat]?).bind fun x8=>(spec_l05Digits x8).bind fun r9=>if v6.length+r9.length≤9223372036854775807 then if 0≤v7 then (v5.2[(v7).toNat]?).bind fun x10=>if 0≤v7 then (v5.1[(v7).toNat]?).bind fun x11=>if x10=x11 then some ((v5,(v6++r9),v7)) else if x10=(-1) then if ((v6++r9)).length+(([47,42]:Str)).length≤9223372036854775807 then some ((v5,((v6++r9)++([47,42]:Str)),v7)) else none else if 0≤v7 then (v5.2[(v7).toNat]?).bind fun x12=>(spec_l05Digits x12).bind fun r13=>if (([47]:Str)).length+r13.length≤9223372036854775807 then if ((v6++r9)).length+((([47]:Str)++r13)).length≤9223372036854775807 then some ((v5,((v6++r9)++(([47]:Str)++r13)),v7)) else none else none else none else none else none else none else none
@[simp] theorem g22p2_eq (y0 y1 y2 y3):X g22_S g22p2_c [(1,(.ptr 0 0 0)),(3,(.str y2)),(4,(.int .i64 y3))] [(.live 2 [[(.vs (rows y0)),(.vs (rows y1))]])]=(spec_SpaceText_p2 ((y0,y1)) y2 y3).map g22p2_F:=by
  simp (maxSteps:=2000000) (maxDischargeDepth:=8) -implicitDefEqProofs [g22p2_c,spec_SpaceText_p2] <;> (try simp only [map_to_bind,some_elim,g22p2_F])
@[reducible,simp] def g22l1_F:Str→Out:=(fun t=>(.ext 0,[(3,(.str t))],[]))
def spec_SpaceText_l1_b (v2:List Int×List Int) (v3:Str) (v4:Int):Option (((List Int×List Int)×Str×Int) ⊕ (Str)):=if v4 < (v2.1.length:Int) then if v4 > 0 then if v3.length+(([44]:Str)).length≤9223372036854775807 then (spec_SpaceText_p2 v2 ((v3++([44]:Str))) v4).bind fun r14=>some (.inl (r14.1,r14.2.1,(IntKind.i64.wrap (r14.2.2+1)))) else none else (spec_SpaceText_p2 v2 v3 v4).bind fun r15=>some (.inl (r15.1,r15.2.1,(IntKind.i64.wrap (r15.2.2+1)))) else some (.inr v3)
theorem g22l1_b_eq  (v2:List Int×List Int) (v3:Str) (v4:Int):X g22_S g22l1_cb (keepEnv [1,3,4] [(1,(.ptr 0 0 0)),(3,(.str v3)),(4,(.int .i64 v4))]) [(.live 2 [[(.vs (rows v2.1)),(.vs (rows v2.2))]])]=(spec_SpaceText_l1_b v2 v3 v4).map (Sum.elim (fun s=>(TX.nrm,[(1,(.ptr 0 0 0)),(3,(.str s.2.1)),(4,(.int .i64 s.2.2))],[(.live 2 [[(.vs (rows s.1.1)),(.vs (rows s.1.2))]])])) g22l1_F):=by
  simp (maxSteps:=2000000) (maxDischargeDepth:=8) -implicitDefEqProofs [g22l1_cb,spec_SpaceText_l1_b] <;> (try simp only [map_to_bind,some_elim,g22l1_F])
def spec_SpaceText_l1  (s:(List Int×List Int)×Str×Int):Option (Str):=loopO (fun s=>spec_SpaceText_l1_b  s.1 s.2.1 s.2.2) s
@[simp] theorem g22l1_eq (y0 y1 y2 y3):X g22_S g22l1_c [(1,(.ptr 0 0 0)),(3,(.str y2)),(4,(.int .i64 y3))] [(.live 2 [[(.vs (rows y0)),(.vs (rows y1))]])]=(spec_SpaceText_l1  ((y0,y1),y2,y3)).map g22l1_F:=by
  exact loop_X _ _ _ _ (by intro r;first | (simp;done) | (rcases r with r | r <;> simp;done) | (rcases r with r | r | r <;> simp;done) | (rcases r with r | r | r | r <;> simp)) (fun s=>g22l1_b_eq   s.1 s.2.1 s.2.2) ((y0,y1),y2,y3)
def spec_SpaceText (a_s:List Int×List Int):Option (Str):=(spec_l05Space a_s).bind fun r1=>if ¬(r1=true) then some (([]:Str)) else (spec_SpaceText_l1 ((a_s,([]:Str),0))).bind fun r16=>if (([40]:Str)).length+r16.length≤9223372036854775807 then if ((([40]:Str)++r16)).length+(([41]:Str)).length≤9223372036854775807 then some (((([40]:Str)++r16)++([41]:Str))) else none else none
@[simp] def g22_O:Str→TV×List Blk:=fun r=>((.str r),[])
def g22_E (a:(List Int×List Int)):List TV:=[(.agg [(.vs (rows a.1)),(.vs (rows a.2))])]
theorem g22_run (a_s:List Int×List Int) :callFn (X g22_S) g22_tf (g22_E a_s) []=(spec_SpaceText a_s).map g22_O:=by
  rw [callFn_eq]
  simp (maxSteps:=2000000) (maxDischargeDepth:=8) -implicitDefEqProofs [g22_tf,spec_SpaceText,g22_E] <;> (try simp only [map_to_bind,some_elim,g22_O])
def g22_r:Rule:=RlO g22_E (fun a=>spec_SpaceText a) g22_O
theorem g22_ok:RuleOk Tryd.prog 45 g22_r:=ok_rlo (S:=g22_S) (tf:=g22_tf) (SysOk.on ⟨g29_ok,g21_ok,trivial⟩ trivial) (trE_ok (ks:=[[1,3,4]]) Tryd.func45 (by kernel_rfl)) fun a=>g22_run a
@[simp] theorem g22_app (y0 y1):g22_r [(.agg [(.vs (rows y0)),(.vs (rows y1))])]=(spec_SpaceText ((y0,y1))).map g22_O :=
  RlO_app (enc:=g22_E) (by intro a b h;simp [g22_E,Prod.ext_iff] at h ⊢;simp [h]) ((y0,y1))
@[simp] theorem g22_app_a_s_0_a_s_1 :g22_r [(.agg [(.vs []),(.vs [])])]=(spec_SpaceText ((([]:List Int),([]:List Int)))).map g22_O :=
  g22_app ([]:List Int) ([]:List Int) 
/-! spec.ReadSpace -/
def g23p2_c:TC:=(sq [fa 57 0 4,ld 58 57,mo 59 8,oo 60 (.bslice [(.int .i64 0)] 1 [(0,(.t 59))]),oo 61 (.append 2 1 8 (.t 58) (.t 60)),fa 62 0 4,⟨none,none,(.store 1 (.t 62) (.t 61))⟩] [0,2,4,5,6,9] (.after (.ops [fa 63 1 4,ld 64 63,mo 65 9,oo 66 (.bslice [(.int .i64 0)] 1 [(0,(.t 65))]),oo 67 (.append 2 1 8 (.t 64) (.t 66)),fa 68 1 4,⟨none,none,(.store 1 (.t 68) (.t 67))⟩]) (kp [(0,0),(2,0),(4,0),(5,1),(6,0)] [(0,2),(1,2),(6,1),(8,1),(4,1)] 0)))
def g23l1_cb:TC:=(.seq (sq [mo 21 6,mo 22 5,le 23 22,bn 24 .lss (.t 21) (.t 23),mo 25 24,⟨(some 26),(some (25,true)),(.mv (.t 6))⟩,⟨(some 27),(some (25,true)),(.bin .num .lss (.t 26) (ki 8))⟩,pk 28 (.t 25) (.t 27) (kb false),mo 29 28,⟨(some 30),(some (29,true)),(.mv (.t 0))⟩,⟨(some 31),(some (29,true)),(.len true (.t 30))⟩,⟨(some 32),(some (29,true)),(.bin .num .gtr (.t 31) (ki 2))⟩,pk 33 (.t 29) (.t 32) (kb false)] [0,2,4,5,6,33] (.cond (.t 33) .skip (.keep (kp [(0,0),(2,0),(4,0)] [(0,2),(1,2),(2,1),(3,1)] 0) (.exit 0)))) (.trim [0,2,4,5,6] (.seq (.block 1 (sq [mo 36 5,mo 37 6,ia 38 1 36 37,ld 39 38,ca 40 43 [.t 39,(.c (.int .u8 47))],mo 7 40] [0,2,4,5,6,7] (sq [mo 41 7,oo 42 (.iaddr 1 (.t 41) (ki 0)),ld 43 42,ca 44 44 [.t 43],mo 8 44] [0,2,4,5,6,7,8] (sq [mo 45 8,mo 9 45] [0,2,4,5,6,7,8,9] (.seq (sq [mo 46 7,le 47 46,bn 48 .gtr (.t 47) (ki 1)] [0,2,4,5,6,7,8,9,48] (.cond (.t 48) (sq [mo 49 7,oo 50 (.iaddr 1 (.t 49) (ki 1)),ld 51 50,ca 52 44 [.t 51],mo 9 52] [0,2,4,5,6,7,8,9] (sq [mo 53 7,oo 54 (.iaddr 1 (.t 53) (ki 1)),ld 55 54,oo 56 (.bin .str .eql (.t 55) (.c (.str [42])))] [0,2,4,5,6,8,9,56] (.cond (.t 56) (.after (.ops [mk 9 (ki (-1))]) (kp [(0,0),(2,0),(4,0),(5,1),(6,0),(8,0),(9,0)] [(0,2),(1,2),(2,1),(3,1),(4,1)] 0)) (.keep (kp [(0,0),(2,0),(4,0),(5,1),(6,0),(8,0),(9,0)] [(0,2),(1,2),(2,1),(3,1),(4,1)] 0) .skip)))) (.keep (kp [(0,0),(2,0),(4,0),(5,1),(6,0),(8,0),(9,0)] [(0,2),(1,2),(2,1),(3,1),(4,1)] 0) .skip))) (.trim [0,2,4,5,6,8,9] g23p2_c)))))) (.trim [0,2,4,5,6] (.after (.ops [mo 34 6,bn 35 .add (.t 34) (ki 1),mo 6 35]) (kp [(0,0),(2,0),(4,0),(5,1),(6,0)] [(0,2),(1,2),(2,1),(3,1),(4,1)] 0))))))
def g23l1_c:TC:=.loop [0,2,4,5,6] g23l1_cb
def g23_tf:TFn:=⟨(sq [oo 2 (.alloc [.nils,.nils]),mk 3 (kb false)] [0,2] (.seq (sq [mo 10 0,oo 11 (.len true (.t 10)),bn 12 .lss (.t 11) (ki 2)] [0,2,12] (.cond (.t 12) (.seq (.ops [oo 13 (.build [.nils,.nils] []),⟨none,none,(.store 2 (.t 2) (.t 13))⟩,mk 3 (kb false)]) (.keep (kp [(2,0),(3,0)] [(0,2),(1000,1),(1001,1)] 0) .ret)) .skip)) (.trim [0,2] (sq [oo 14 (.build [.nils,.nils] []),oo 4 (.alloc [.nils,.nils]),⟨none,none,(.store 2 (.t 4) (.t 14))⟩] [0,2,4] (sq [mo 15 0,mo 16 0,oo 17 (.len true (.t 16)),bn 18 .sub (.t 17) (ki 1),oo 19 (.sliceS (.t 15) (some (ki 1)) (some (.t 18))),ca 20 43 [.t 19,(.c (.int .u8 44))],mo 5 20] [0,2,4,5] (.seq (sq [mk 6 (ki 0)] [0,2,4,5,6] (.block 0 (.keep (kp [(0,0),(2,0),(4,0),(5,1),(6,0)] [(0,2),(1,2),(1000,1),(1001,1),(2,1)] 0) g23l1_c))) (.trim [0,2,4] (.seq (sq [ln 69 2 4,ca 70 45 [.t 69],mo 71 0,oo 72 (.bin .str .neq (.t 70) (.t 71))] [2,4,72] (.cond (.t 72) (.seq (.ops [oo 73 (.build [.nils,.nils] []),⟨none,none,(.store 2 (.t 2) (.t 73))⟩,mk 3 (kb false)]) (.keep (kp [(2,0),(3,0)] [(0,2),(1000,1),(1001,1)] 0) .ret)) .skip)) (.trim [2,4] (.seq (.ops [ln 74 2 4,⟨none,none,(.store 2 (.t 2) (.t 74))⟩,mk 3 (kb true)]) (.keep (kp [(2,0),(3,0)] [(0,2),(2,1),(3,1)] 0) .ret))))))))))),[.cell 2 (some 2),.t 3]⟩
abbrev g23_S:=Sys.on [(43,g28_r),(44,g20_r),(45,g22_r)] []
@[reducible,simp] def g23p2_F:(Str×(List Int×List Int)×List Str×Int)→Out:=(fun t=>(.nrm,[(0,(.str t.1)),(2,(.ptr 0 0 0)),(4,(.ptr 1 0 0)),(5,(ow 4 t.2.2.1.length)),(6,(.int .i64 t.2.2.2))],[(.live 2 [[.es,.es]]),(.live 2 [[(ow 2 t.2.1.1.length),(ow 3 t.2.1.2.length)]]),(ob 1 t.2.1.1),(ob 1 t.2.1.2),(ob 1 t.2.2.1)]))
def spec_ReadSpace_p2 (v14:Str) (v15:List Int×List Int) (v16:List Str) (v17:Int) (v18:Int) (v19:Int):Option (Str×(List Int×List Int)×List Str×Int):=(appL 8 v15.1 ((lit [v18]:List Int))).bind fun l20=>(appL 8 v15.2 ((lit [v19]:List Int))).bind fun l21=>some ((v14,(l20,l21),v16,v17))
@[simp] theorem g23p2_eq (y0)(y1:List Int)(y2:List Int)(y3:List Str)(y4 y5 y6){n1:Nat}(h1:n1=y3.length){n2:Nat}(h2:n2=y1.length){n3:Nat}(h3:n3=y2.length):X g23_S g23p2_c [(0,(.str y0)),(2,(.ptr 0 0 0)),(4,(.ptr 1 0 0)),(5,(ow 4 n1)),(6,(.int .i64 y4)),(8,(.int .i64 y5)),(9,(.int .i64 y6))] [(.live 2 [[.es,.es]]),(.live 2 [[(ow 2 n2),(ow 3 n3)]]),(ob 1 y1),(ob 1 y2),(ob 1 y3)]=(spec_ReadSpace_p2 y0 ((y1,y2)) y3 y4 y5 y6).map g23p2_F:=by
  subst h1 h2 h3
  simp (maxSteps:=2000000) (maxDischargeDepth:=8) -implicitDefEqProofs [g23p2_c,spec_ReadSpace_p2,bslV_lit (α:=Int) (zs:=[(.int .i64 0)])] <;> (try simp only [map_to_bind,some_elim,g23p2_F])
@[reducible,simp] def g23l1_F:(Str×(List Int×List Int))→Out:=(fun t=>(.ext 0,[(0,(.str t.1)),(2,(.ptr 0 0 0)),(4,(.ptr 1 0 0))],[(.live 2 [[.es,.es]]),(.live 2 [[(ow 2 t.2.1.length),(ow 3 t.2.2.length)]]),(ob 1 t.2.1),(ob 1 t.2.2)]))
def spec_ReadSpace_l1_b (v3:Str) (v4:List Int×List Int) (v5:List Str) (v6:Int):Option ((Str×(List Int×List Int)×List Str×Int) ⊕ (Str×(List Int×List Int))):=if v6 < ((v5.length:Nat):Int) then if v6 < 8 then if (v3.length:Int) > 2 then if 0≤v6∧v6 < ((v5.length:Nat):Int) then (v5[(v6).toNat]?).bind fun x7=>(spec_l05Split x7 47).bind fun r8=>if 0≤(0:Int)∧(0:Int) < ((r8.length:Nat):Int) then (r8[((0:Int)).toNat]?).bind fun x9=>(spec_l05Number x9).bind fun r10=>if ((r8.length:Nat):Int) > 1 then if 0≤(1:Int)∧(1:Int) < ((r8.length:Nat):Int) then (r8[((1:Int)).toNat]?).bind fun x11=>(spec_l05Number x11).bind fun r12=>if 0≤(1:Int)∧(1:Int) < ((r8.length:Nat):Int) then (r8[((1:Int)).toNat]?).bind fun x13=>if x13=([42]:Str) then (spec_ReadSpace_p2 v3 v4 v5 v6 r10 ((-1))).bind fun r22=>some (.inl (r22.1,r22.2.1,r22.2.2.1,(IntKind.i64.wrap (r22.2.2.2+1)))) else (spec_ReadSpace_p2 v3 v4 v5 v6 r10 r12).bind fun r23=>some (.inl (r23.1,r23.2.1,r23.2.2.1,(IntKind.i64.wrap (r23.2.2.2+1)))) else none else none else (spec_ReadSpace_p2 v3 v4 v5 v6 r10 r10).bind fun r24=>some (.inl (r24.1,r24.2.1,r24.2.2.1,(IntKind.i64.wrap (r24.2.2.2+1)))) else none else none else some (.inr (v3,v4)) else some (.inr (v3,v4)) else some (.inr (v3,v4))
theorem g23l1_b_eq  (v3:Str) (v4:List Int×List Int) (v5:List Str) (v6:Int):X g23_S g23l1_cb (keepEnv [0,2,4,5,6] [(0,(.str v3)),(2,(.ptr 0 0 0)),(4,(.ptr 1 0 0)),(5,(ow 4 v5.length)),(6,(.int .i64 v6))]) [(.live 2 [[.es,.es]]),(.live 2 [[(ow 2 v4.1.length),(ow 3 v4.2.length)]]),(ob 1 v4.1),(ob 1 v4.2),(ob 1 v5)]=(spec_ReadSpace_l1_b v3 v4 v5 v6).map (Sum.elim (fun s=>(TX.nrm,[(0,(.str s.1)),(2,(.ptr 0 0 0)),(4,(.ptr 1 0 0)),(5,(ow 4 s.2.2.1.length)),(6,(.int .i64 s.2.2.2))],[(.live 2 [[.es,.es]]),(.live 2 [[(ow 2 s.2.1.1.length),(ow 3 s.2.1.2.length)]]),(ob 1 s.2.1.1),(ob 1 s.2.1.2),(ob 1 s.2.2.1)])) g23l1_F):=by
  simp (maxSteps:=2000000) (maxDischargeDepth:=8) -implicitDefEqProofs [g23l1_cb,spec_ReadSpace_l1_b,bslV_lit (α:=Int) (zs:=[(.int .i64 0)])] <;> (try simp only [map_to_bind,some_elim,g23l1_F])
def spec_ReadSpace_l1  (s:Str×(List Int×List Int)×List Str×Int):Option (Str×(List Int×List Int)):=loopO (fun s=>spec_ReadSpace_l1_b  s.1 s.2.1 s.2.2.1 s.2.2.2) s
@[simp] theorem g23l1_eq (y0)(y1:List Int)(y2:List Int)(y3:List Str)(y4){n1:Nat}(h1:n1=y3.length){n2:Nat}(h2:n2=y1.length){n3:Nat}(h3:n3=y2.length):X g23_S g23l1_c [(0,(.str y0)),(2,(.ptr 0 0 0)),(4,(.ptr 1 0 0)),(5,(ow 4 n1)),(6,(.int .i64 y4))] [(.live 2 [[.es,.es]]),(.live 2 [[(ow 2 n2),(ow 3 n3)]]),(ob 1 y1),(ob 1 y2),(ob 1 y3)]=(spec_ReadSpace_l1  (y0,(y1,y2),y3,y4)).map g23l1_F:=by
  subst h1 h2 h3
  exact loop_X _ _ _ _ (by intro r;first | (simp;done) | (rcases r with r | r <;> simp;done) | (rcases r with r | r | r <;> simp;done) | (rcases r with r | r | r | r <;> simp)) (fun s=>g23l1_b_eq   s.1 s.2.1 s.2.2.1 s.2.2.2) (y0,(y1,y2),y3,y4)
@[simp] theorem g23l1_eq_1x0_1x1 (y0)(y1:List Str)(y2){n1:Nat}(h1:n1=y1.length):X g23_S g23l1_c [(0,(.str y0)),(2,(.ptr 0 0 0)),(4,(.ptr 1 0 0)),(5,(ow 4 n1)),(6,(.int .i64 y2))] [(.live 2 [[.es,.es]]),(.live 2 [[.es,.es]]),.dead,.dead,(ob 1 y1)]=(spec_ReadSpace_l1  (y0,(([]:List Int),([]:List Int)),y1,y2)).map g23l1_F :=
  g23l1_eq  y0 ([]:List Int) ([]:List Int) y1 y2 h1 rfl rfl
def spec_ReadSpace (a_s:Str):Option ((List Int×List Int)×Bool):=if (a_s.length:Int) < 2 then some ((([]:List Int),([]:List Int)),false) else (subL a_s (some 1) (some ((IntKind.i64.wrap ((a_s.length:Int) - 1))))).bind fun s1=>(spec_l05Split s1 44).bind fun r2=>(spec_ReadSpace_l1 ((a_s,(([]:List Int),([]:List Int)),r2,0))).bind fun r25=>(spec_SpaceText r25.2).bind fun r26=>if ¬(r26=r25.1) then some ((([]:List Int),([]:List Int)),false) else some (r25.2,true)
@[simp] def g23_O:((List Int×List Int)×Bool)→TV×List Blk:=fun r=>((.tup [(.agg [(ow 1 r.1.1.length),(ow 2 r.1.2.length)]),(.bool r.2)]),[(.live 2 [[(ow 1 r.1.1.length),(ow 2 r.1.2.length)]]),(ob 1 r.1.1),(ob 1 r.1.2)])
def g23_E (a:Str):List TV:=[(.str a)]
theorem g23_run (a_s:Str) :callFn (X g23_S) g23_tf (g23_E a_s) []=(spec_ReadSpace a_s).map g23_O:=by
  rw [callFn_eq]
  simp (maxSteps:=2000000) (maxDischargeDepth:=8) -implicitDefEqProofs [g23_tf,spec_ReadSpace,g23_E,bslV_lit (α:=Int) (zs:=[(.int .i64 0)])] <;> (try simp only [map_to_bind,some_elim,g23_O])
def g23_r:Rule:=RlO g23_E (fun a=>spec_ReadSpace a) g23_O
theorem g23_ok:RuleOk Tryd.prog 13 g23_r:=ok_rlo (S:=g23_S) (tf:=g23_tf) (SysOk.on ⟨g28_ok,g20_ok,g22_ok,trivial⟩ trivial) (trE_ok (ks:=[[0,2,4,5,6]]) Tryd.func13 (by kernel_rfl)) fun a=>g23_run a
@[simp] theorem g23_app (y0):g23_r [(.str y0)]=(spec_ReadSpace y0).map g23_O :=
  RlO_app (enc:=g23_E) (by intro a b h;simp [g23_E,Prod.ext_iff] at h ⊢;simp [h]) y0
/-! internal/stringslite.HasPrefix -/
def g2_tf:TFn:=⟨(sq [mk 4 (kb false)] [0,1] (.seq (.after (.ops [mo 5 0,oo 6 (.len true (.t 5)),mo 7 1,oo 8 (.len true (.t 7)),bn 9 .geq (.t 6) (.t 8),mo 10 9,⟨(some 11),(some (10,true)),(.mv (.t 0))⟩,⟨(some 12),(some (10,true)),(.mv (.t 1))⟩,⟨(some 13),(some (10,true)),(.len true (.t 12))⟩,⟨(some 14),(some (10,true)),(.sliceS (.t 11) none (some (.t 13)))⟩,⟨(some 15),(some (10,true)),(.mv (.t 1))⟩,⟨(some 16),(some (10,true)),(.bin .str .eql (.t 14) (.t 15))⟩,pk 17 (.t 10) (.t 16) (kb false),mo 4 17]) (kp [(4,0)] [] 0)) (.keep (kp [(4,0)] [] 0) .ret))),[.t 4]⟩
abbrev g2_S:=Sys.on [] []
def internal_stringslite_HasPrefix (a_s:Str) (a_prefix:Str):Option (Bool):=if (a_s.length:Int) ≥ (a_prefix.length:Int) then (subL a_s none (some ((a_prefix.length:Int)))).bind fun s1=>some ((decide (s1=a_prefix))) else some false
@[simp] def g2_O:Bool→TV×List Blk:=fun r=>((.bool r),[])
def g2_E (a:Str×Str):List TV:=[(.str a.1),(.str a.2)]
theorem g2_run (a_s:Str) (a_prefix:Str) :callFn (X g2_S) g2_tf (g2_E (a_s,a_prefix)) []=(internal_stringslite_HasPrefix a_s a_prefix).map g2_O:=by
  rw [callFn_eq]
  simp (maxSteps:=2000000) (maxDischargeDepth:=8) -implicitDefEqProofs [g2_tf,internal_stringslite_HasPrefix,g2_E] <;> (try simp only [map_to_bind,some_elim,g2_O])
def g2_r:Rule:=RlO g2_E (fun a=>internal_stringslite_HasPrefix a.1 a.2) g2_O
theorem g2_ok:RuleOk Tryd.prog 149 g2_r:=ok_rlo (S:=g2_S) (tf:=g2_tf) (SysOk.on trivial trivial) (trE_ok (ks:=[]) Tryd.func149 (by kernel_rfl)) fun a=>g2_run a.1 a.2
@[simp] theorem g2_app (y0 y1):g2_r [(.str y0),(.str y1)]=(internal_stringslite_HasPrefix y0 y1).map g2_O :=
  RlO_app (enc:=g2_E) (by intro a b h;simp [g2_E,Prod.ext_iff] at h ⊢;simp [h]) (y0,y1)
end
end Go.Proofs.TM
