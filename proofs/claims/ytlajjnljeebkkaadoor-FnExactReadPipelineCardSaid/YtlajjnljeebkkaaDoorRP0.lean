/- Functions of the program, as functions of their data: written by program. -/
import Derived.Test.YtlajjnljeebkkaaDoorTRec
import Derived.Test.YtlajjnljeebkkaaDoorTShelf
import Derived.Test.YtlajjnljeebkkaaDoorTLib
import Derived.Test.YtlajjnljeebkkaaDoorProg
import Derived.KernelRfl
namespace Go.Proofs.TM
open Go Go.Proofs
set_option linter.unusedVariables false
set_option linter.unusedSimpArgs false
set_option maxHeartbeats 1000000
attribute [-simp] Option.map_bind strV_some
attribute [simp] guardOn_bool sA_bslice Function.comp_def
noncomputable section

/-! spec.l05Split -/
def g31l1_cb:TC:=(.seq (sq [mo 9 7,mo 10 0,oo 11 (.len true (.t 10)),bn 12 .lss (.t 9) (.t 11)] [0,1,5,6,7,12] (.cond (.t 12) .skip (.keep (kp [(0,0),(5,1),(6,0)] [(0,1)] 0) (.exit 0)))) (.trim [0,1,5,6,7] (.seq (.block 1 (sq [mo 15 0,mo 16 7,oo 17 (.index (.t 15) (.t 16)),mo 18 1,bn 19 .eql (.t 17) (.t 18)] [0,1,5,6,7,19] (.cond (.t 19) (sq [mo 20 5,mo 21 0,mo 22 6,mo 23 7,oo 24 (.sliceS (.t 21) (some (.t 22)) (some (.t 23))),oo 25 (.bslice [(.str [])] 1 [(0,(.t 24))]),oo 26 (.append 9 1 16 (.t 20) (.t 25)),mo 5 26] [0,1,5,7] (.after (.ops [mo 27 7,bn 28 .add (.t 27) (ki 1),mo 6 28]) (kp [(0,0),(1,0),(5,1),(6,0),(7,0)] [(2,1)] 0))) (.keep (kp [(0,0),(1,0),(5,1),(6,0),(7,0)] [(0,1)] 0) .skip)))) (.trim [0,1,5,6,7] (.after (.ops [mo 13 7,bn 14 .add (.t 13) (ki 1),mo 7 14]) (kp [(0,0),(1,0),(5,1),(6,0),(7,0)] [(0,1)] 0))))))
def g31l1_c:TC:=.loop [0,1,5,6,7] g31l1_cb
def g31_tf:TFn:=⟨(sq [mk 4 (.c .nils)] [0,1] (sq [oo 8 (.bslice [(.str [])] 0 []),mo 5 8] [0,1,5] (sq [mk 6 (ki 0)] [0,1,5,6] (.seq (sq [mk 7 (ki 0)] [0,1,5,6,7] (.block 0 (.keep (kp [(0,0),(1,0),(5,1),(6,0),(7,0)] [(1000,1)] 0) g31l1_c))) (.trim [0,5,6] (.seq (.ops [mo 29 5,mo 30 0,mo 31 6,oo 32 (.sliceS (.t 30) (some (.t 31)) none),oo 33 (.bslice [(.str [])] 1 [(0,(.t 32))]),oo 34 (.append 9 1 16 (.t 29) (.t 33)),mo 4 34]) (.keep (kp [(4,1)] [(2,1)] 0) .ret))))))),[.t 4]⟩
abbrev g31_S:=Sys.on [] []
@[reducible,simp] def g31l1_F:(Str×List Str×Int)→Out:=(fun t=>(.ext 0,[(0,(.str t.1)),(5,(ow 0 t.2.1.length)),(6,(.int .i64 t.2.2))],[(ob 1 t.2.1)]))
def spec_l05Split_l1_b (v1:Str) (v2:Int) (v3:List Str) (v4:Int) (v5:Int):Option ((List Str×Int×Int) ⊕ (Str×List Str×Int)):=if v5 < (v1.length:Int) then if 0≤v5 then (v1[(v5).toNat]?).bind fun (b6:UInt8)=>if (b6.toNat:Int)=v2 then (subL v1 (some v4) (some v5)).bind fun s7=>(appL 16 v3 ((lit [s7]:List Str))).bind fun l8=>some (.inl (l8,(IntKind.i64.wrap (v5+1)),(IntKind.i64.wrap (v5+1)))) else some (.inl (v3,v4,(IntKind.i64.wrap (v5+1)))) else none else some (.inr (v1,v3,v4))
theorem g31l1_b_eq  (v1:Str) (v2:Int) (v3:List Str) (v4:Int) (v5:Int):X g31_S g31l1_cb (keepEnv [0,1,5,6,7] [(0,(.str v1)),(1,(.int .u8 v2)),(5,(ow 0 v3.length)),(6,(.int .i64 v4)),(7,(.int .i64 v5))]) [(ob 1 v3)]=(spec_l05Split_l1_b v1 v2 v3 v4 v5).map (Sum.elim (fun s=>(TX.nrm,[(0,(.str v1)),(1,(.int .u8 v2)),(5,(ow 0 s.1.length)),(6,(.int .i64 s.2.1)),(7,(.int .i64 s.2.2))],[(ob 1 s.1)])) g31l1_F):=by
  simp (maxSteps:=2000000) (maxDischargeDepth:=8) -implicitDefEqProofs [g31l1_cb,spec_l05Split_l1_b,bslV_lit (α:=Str) (zs:=[(.str [])])] <;> (try simp only [map_to_bind,some_elim,g31l1_F])
def spec_l05Split_l1 (v1:Str) (v2:Int) (s:List Str×Int×Int):Option (Str×List Str×Int):=loopO (fun s=>spec_l05Split_l1_b v1 v2 s.1 s.2.1 s.2.2) s
@[simp] theorem g31l1_eq (y0 y1)(y2:List Str)(y3 y4){n1:Nat}(h1:n1=y2.length):X g31_S g31l1_c [(0,(.str y0)),(1,(.int .u8 y1)),(5,(ow 0 n1)),(6,(.int .i64 y3)),(7,(.int .i64 y4))] [(ob 1 y2)]=(spec_l05Split_l1 y0 y1 (y2,y3,y4)).map g31l1_F:=by
  subst h1
  exact loop_X _ _ _ _ (by intro r;first | (simp;done) | (rcases r with r | r <;> simp;done) | (rcases r with r | r | r <;> simp;done) | (rcases r with r | r | r | r <;> simp)) (fun s=>g31l1_b_eq  y0 y1 s.1 s.2.1 s.2.2) (y2,y3,y4)
@[simp] theorem g31l1_eq_2 (y0 y1 y2 y3):X g31_S g31l1_c [(0,(.str y0)),(1,(.int .u8 y1)),(5,.es),(6,(.int .i64 y2)),(7,(.int .i64 y3))] [.dead]=(spec_l05Split_l1 y0 y1 (([]:List Str),y2,y3)).map g31l1_F :=
  g31l1_eq  y0 y1 ([]:List Str) y2 y3 rfl
def spec_l05Split (a_s:Str) (a_by:Int):Option (List Str):=(spec_l05Split_l1 a_s a_by ((([]:List Str),0,0))).bind fun r9=>(subL r9.1 (some r9.2.2) none).bind fun s10=>(appL 16 r9.2.1 ((lit [s10]:List Str))).bind fun l11=>some l11
@[simp] def g31_O:List Str→TV×List Blk:=fun r=>((ow 0 r.length),[(ob 1 r)])
def g31_E (a:Str×Int):List TV:=[(.str a.1),(.int .u8 a.2)]
theorem g31_run (a_s:Str) (a_by:Int) :callFn (X g31_S) g31_tf (g31_E (a_s,a_by)) []=(spec_l05Split a_s a_by).map g31_O:=by
  rw [callFn_eq]
  simp (maxSteps:=2000000) (maxDischargeDepth:=8) -implicitDefEqProofs [g31_tf,spec_l05Split,g31_E,bslV_lit (α:=Str) (zs:=[(.str [])])] <;> (try simp only [map_to_bind,some_elim,g31_O])
def g31_r:Rule:=RlO g31_E (fun a=>spec_l05Split a.1 a.2) g31_O
theorem g31_ok:RuleOk Tryd.prog 43 g31_r:=ok_rlo (S:=g31_S) (tf:=g31_tf) (SysOk.on trivial trivial) (trE_ok (ks:=[[0,1,5,6,7]]) Tryd.func43 (by kernel_rfl)) fun a=>g31_run a.1 a.2
@[simp] theorem g31_app (y0 y1):g31_r [(.str y0),(.int .u8 y1)]=(spec_l05Split y0 y1).map g31_O :=
  RlO_app (enc:=g31_E) (by intro a b h;simp [g31_E,Prod.ext_iff] at h ⊢;simp [h]) (y0,y1)
/-! spec.l05Number -/
def g28l1_cb:TC:=(.seq (sq [mo 13 4,mo 14 0,oo 15 (.len true (.t 14)),bn 16 .lss (.t 13) (.t 15)] [0,3,4,16] (.cond (.t 16) .skip (.keep (kp [(3,0)] [] 0) (.exit 0)))) (.trim [0,3,4] (.seq (.block 1 (.seq (sq [mo 19 0,mo 20 4,oo 21 (.index (.t 19) (.t 20)),oo 22 (.bin .num .lss (.t 21) (.c (.int .u8 48))),mo 23 22,⟨(some 24),(some (23,false)),(.mv (.t 0))⟩,⟨(some 25),(some (23,false)),(.mv (.t 4))⟩,⟨(some 26),(some (23,false)),(.index (.t 24) (.t 25))⟩,⟨(some 27),(some (23,false)),(.bin .num .gtr (.t 26) (.c (.int .u8 57)))⟩,pk 28 (.t 23) (kb true) (.t 27)] [0,3,4,28] (.cond (.t 28) (.seq (.ops [mk 2 (ki (-1))]) (.keep (kp [(2,0)] [] 0) .ret)) .skip)) (.trim [0,3,4] (.ops [mo 29 3,bn 30 .mul (ki 10) (.t 29),mo 31 0,mo 32 4,oo 33 (.index (.t 31) (.t 32)),oo 34 (.bin .num .sub (.t 33) (.c (.int .u8 48))),oo 35 (.conv (.toInt .i64) (.t 34)),bn 36 .add (.t 30) (.t 35),mo 3 36])))) (.trim [0,3,4] (.after (.ops [mo 17 4,bn 18 .add (.t 17) (ki 1),mo 4 18]) (kp [(0,0),(3,0),(4,0)] [] 0))))))
def g28l1_c:TC:=.loop [0,3,4] g28l1_cb
def g28_tf:TFn:=⟨(sq [mk 2 (ki 0)] [0] (.seq (sq [mo 5 0,oo 6 (.len true (.t 5)),bn 7 .lss (.t 6) (ki 1),mo 8 7,⟨(some 9),(some (8,false)),(.mv (.t 0))⟩,⟨(some 10),(some (8,false)),(.len true (.t 9))⟩,⟨(some 11),(some (8,false)),(.bin .num .gtr (.t 10) (ki 6))⟩,pk 12 (.t 8) (kb true) (.t 11)] [0,12] (.cond (.t 12) (.seq (.ops [mk 2 (ki (-1))]) (.keep (kp [(2,0)] [] 0) .ret)) .skip)) (.trim [0] (sq [mk 3 (ki 0)] [0,3] (.seq (sq [mk 4 (ki 0)] [0,3,4] (.block 0 (.keep (kp [(0,0),(3,0),(4,0)] [] 0) g28l1_c))) (.trim [3] (.seq (.ops [mo 37 3,mo 2 37]) (.keep (kp [(2,0)] [] 0) .ret)))))))),[.t 2]⟩
abbrev g28_S:=Sys.on [] []
@[reducible,simp] def g28l1_F:((Int) ⊕ (Int))→Out:=(Sum.elim (fun t=>(.ext 0,[(3,(.int .i64 t))],[])) (fun t=>(.ret,[(2,(.int .i64 t))],[])))
def spec_l05Number_l1_b (v1:Str) (v2:Int) (v3:Int):Option ((Int×Int) ⊕ ((Int) ⊕ (Int))):=if v3 < (v1.length:Int) then if 0≤v3 then (v1[(v3).toNat]?).bind fun (b4:UInt8)=>if (b4.toNat:Int) < 48 then some (.inr (.inr ((-1)))) else if 0≤v3 then (v1[(v3).toNat]?).bind fun (b5:UInt8)=>if (b5.toNat:Int) > 57 then some (.inr (.inr ((-1)))) else if 0≤v3 then (v1[(v3).toNat]?).bind fun (b6:UInt8)=>some (.inl ((IntKind.i64.wrap ((IntKind.i64.wrap (10 * v2))+(IntKind.i64.wrap ((IntKind.u8.wrap ((b6.toNat:Int) - 48)))))),(IntKind.i64.wrap (v3+1)))) else none else none else none else some (.inr (.inl v2))
theorem g28l1_b_eq  (v1:Str) (v2:Int) (v3:Int):X g28_S g28l1_cb (keepEnv [0,3,4] [(0,(.str v1)),(3,(.int .i64 v2)),(4,(.int .i64 v3))]) []=(spec_l05Number_l1_b v1 v2 v3).map (Sum.elim (fun s=>(TX.nrm,[(0,(.str v1)),(3,(.int .i64 s.1)),(4,(.int .i64 s.2))],[])) g28l1_F):=by
  simp (maxSteps:=2000000) (maxDischargeDepth:=8) -implicitDefEqProofs [g28l1_cb,spec_l05Number_l1_b] <;> (try simp only [map_to_bind,some_elim,g28l1_F])
def spec_l05Number_l1 (v1:Str) (s:Int×Int):Option ((Int) ⊕ (Int)):=loopO (fun s=>spec_l05Number_l1_b v1 s.1 s.2) s
@[simp] theorem g28l1_eq (y0 y1 y2):X g28_S g28l1_c [(0,(.str y0)),(3,(.int .i64 y1)),(4,(.int .i64 y2))] []=(spec_l05Number_l1 y0 (y1,y2)).map g28l1_F:=by
  exact loop_X _ _ _ _ (by intro r;first | (simp;done) | (rcases r with r | r <;> simp;done) | (rcases r with r | r | r <;> simp;done) | (rcases r with r | r | r | r <;> simp)) (fun s=>g28l1_b_eq  y0 s.1 s.2) (y1,y2)
def spec_l05Number (a_s:Str):Option (Int):=if (a_s.length:Int) < 1 then some ((-1)) else if (a_s.length:Int) > 6 then some ((-1)) else (spec_l05Number_l1 a_s ((0,0))).bind fun r7=>Sum.elim (fun u8=>some u8) (fun u9=>some u9) r7
@[simp] def g28_O:Int→TV×List Blk:=fun r=>((.int .i64 r),[])
def g28_E (a:Str):List TV:=[(.str a)]
theorem g28_run (a_s:Str) :callFn (X g28_S) g28_tf (g28_E a_s) []=(spec_l05Number a_s).map g28_O:=by
  rw [callFn_eq]
  simp (maxSteps:=2000000) (maxDischargeDepth:=8) -implicitDefEqProofs [g28_tf,spec_l05Number,g28_E] <;> (try simp only [map_to_bind,some_elim,g28_O])
def g28_r:Rule:=RlO g28_E (fun a=>spec_l05Number a) g28_O
theorem g28_ok:RuleOk Tryd.prog 44 g28_r:=ok_rlo (S:=g28_S) (tf:=g28_tf) (SysOk.on trivial trivial) (trE_ok (ks:=[[0,3,4]]) Tryd.func44 (by kernel_rfl)) fun a=>g28_run a
@[simp] theorem g28_app (y0):g28_r [(.str y0)]=(spec_l05Number y0).map g28_O :=
  RlO_app (enc:=g28_E) (by intro a b h;simp [g28_E,Prod.ext_iff] at h ⊢;simp [h]) y0
/-! spec.l19Words -/
def g32_tf:TFn:=⟨(sq [mk 0 (.c .nils)] [] (.seq (.ops [oo 1 (.bslice [(.str [])] 6 [(0,(.c (.str []))),(1,(.c (.str [115,104,117,102,102,108,101]))),(2,(.c (.str [100,101,108,116,97]))),(3,(.c (.str [114,117,110]))),(4,(.c (.str [108,122]))),(5,(.c (.str [115,117,109])))]),mo 0 1]) (.keep (kp [(0,1)] [(0,1)] 0) .ret))),[.t 0]⟩
abbrev g32_S:=Sys.on [] []
def spec_l19Words :Option (List Str):=some ((lit [([]:Str),([115,104,117,102,102,108,101]:Str),([100,101,108,116,97]:Str),([114,117,110]:Str),([108,122]:Str),([115,117,109]:Str)]:List Str))
@[simp] def g32_O:List Str→TV×List Blk:=fun r=>((ow 0 r.length),[(ob 1 r)])
def g32_E (a:Unit):List TV:=[]
theorem g32_run  :callFn (X g32_S) g32_tf (g32_E ()) []=(spec_l19Words ).map g32_O:=by
  rw [callFn_eq]
  simp (maxSteps:=2000000) (maxDischargeDepth:=8) -implicitDefEqProofs [g32_tf,spec_l19Words,g32_E,bslV_lit (α:=Str) (zs:=[(.str [])])] <;> (try simp only [map_to_bind,some_elim,g32_O])
def g32_r:Rule:=RlO g32_E (fun a=>spec_l19Words ) g32_O
theorem g32_ok:RuleOk Tryd.prog 93 g32_r:=ok_rlo (S:=g32_S) (tf:=g32_tf) (SysOk.on trivial trivial) (trE_ok (ks:=[]) Tryd.func93 (by kernel_rfl)) fun a=>g32_run 
@[simp] theorem g32_app :g32_r []=(spec_l19Words ).map g32_O :=
  RlO_app (enc:=g32_E) (by intro a b h;rfl) ()
/-! spec.l19Read -/
def g34l3_cb:TC:=(.seq (sq [mo 45 5,bn 46 .leq (.t 45) (ki 5)] [2,3,4,5,46] (.cond (.t 46) .skip (.keep (kp [(2,0),(3,0)] [(0,0),(1,0)] 0) (.exit 0)))) (.trim [2,3,4,5] (.seq (.block 1 (.seq (.draw [([],ca 49 93 []),([],mo 50 5),([0,1],ia 51 1 49 50),([0,1,2],ld 52 51),([],mo 53 4),([4],oo 54 (.iaddr 1 (.t 53) (ki 0))),([4,5],ld 55 54)] [oo 56 (.bin .str .eql (.t 52) (.t 55))]) (.trim [2,3,4,5,56] (.cond (.t 56) (.after (.ops [mo 57 5,fa 58 0 3,⟨none,none,(.store 1 (.t 58) (.t 57))⟩]) (kp [(2,0),(3,0),(4,1),(5,0)] [(0,0),(1,0),(2,1)] 0)) (.keep (kp [(2,0),(3,0),(4,1),(5,0)] [(0,0),(1,0),(2,1)] 0) .skip))))) (.trim [2,3,4,5] (.after (.ops [mo 47 5,bn 48 .add (.t 47) (ki 1),mo 5 48]) (kp [(2,0),(3,0),(4,1),(5,0)] [(0,0),(1,0),(2,1)] 0))))))
def g34l3_c:TC:=.loop [2,3,4,5] g34l3_cb
def g34p2_c:TC:=(.seq (sq [mk 5 (ki 1)] [2,3,4,5] (.block 0 (.keep (kp [(2,0),(3,0),(4,1),(5,0)] [(0,0),(1,0),(2,1)] 0) g34l3_c))) (.trim [2,3] (.seq (.ops [ln 59 3 3,⟨none,none,(.store 3 (.t 2) (.t 59))⟩]) (.keep (kp [(2,0)] [(0,0)] 0) .ret))))
def g34p1_c:TC:=(sq [mo 23 0,ca 24 43 [.t 23,(.c (.int .u8 40))],mo 4 24] [2,3,4] (.seq (sq [mo 25 4,le 26 25,bn 27 .gtr (.t 26) (ki 1),mo 28 27,⟨(some 29),(some (28,true)),(.mv (.t 4))⟩,⟨(some 30),(some (28,true)),(.iaddr 1 (.t 29) (ki 1))⟩,⟨(some 31),(some (28,true)),(.load none (.t 30))⟩,⟨(some 32),(some (28,true)),(.bin .str .neq (.t 31) (.c (.str [])))⟩,pk 33 (.t 28) (.t 32) (kb false)] [2,3,4,33] (.cond (.t 33) (.after (.draw [([],mo 34 4),([0],oo 35 (.iaddr 1 (.t 34) (ki 1))),([0,1],ld 36 35),([],mo 37 4),([3],oo 38 (.iaddr 1 (.t 37) (ki 1))),([3,4],ld 39 38),([3,4,5],oo 40 (.len true (.t 39))),([3,4,5,6],bn 41 .sub (.t 40) (ki 1))] [oo 42 (.sliceS (.t 36) none (some (.t 41))),ca 43 44 [.t 42],fa 44 1 3,⟨none,none,(.store 1 (.t 44) (.t 43))⟩]) (kp [(2,0),(3,0),(4,1)] [(0,0),(1,0),(2,1)] 0)) (.keep (kp [(2,0),(3,0),(4,1)] [(0,0),(1,0),(2,1)] 0) .skip))) (.trim [2,3,4] g34p2_c)))
def g34_tf:TFn:=⟨(sq [oo 2 (.alloc [(.int .i64 0),(.int .i64 0),(.bool false)])] [0,2] (sq [oo 6 (.build [(.int .i64 0),(.int .i64 0),(.bool false)] []),oo 3 (.alloc [(.int .i64 0),(.int .i64 0),(.bool false)]),⟨none,none,(.store 3 (.t 3) (.t 6))⟩] [0,2,3] (.seq (sq [mo 7 0,oo 8 (.bin .str .neq (.t 7) (.c (.str []))),mo 9 8,⟨(some 10),(some (9,true)),(.mv (.t 0))⟩,⟨(some 11),(some (9,true)),(.mv (.t 0))⟩,⟨(some 12),(some (9,true)),(.len true (.t 11))⟩,⟨(some 13),(some (9,true)),(.bin .num .sub (.t 12) (ki 1))⟩,⟨(some 14),(some (9,true)),(.index (.t 10) (.t 13))⟩,⟨(some 15),(some (9,true)),(.bin .num .eql (.t 14) (.c (.int .u8 63)))⟩,pk 16 (.t 9) (.t 15) (kb false)] [0,2,3,16] (.cond (.t 16) (sq [fa 17 2 3,⟨none,none,(.store 1 (.t 17) (kb true))⟩] [0,2,3] (.after (.ops [mo 18 0,mo 19 0,oo 20 (.len true (.t 19)),bn 21 .sub (.t 20) (ki 1),oo 22 (.sliceS (.t 18) none (some (.t 21))),mo 0 22]) (kp [(0,0),(2,0),(3,0)] [(0,0),(1,0)] 0))) (.keep (kp [(0,0),(2,0),(3,0)] [(0,0),(1,0)] 0) .skip))) (.trim [0,2,3] g34p1_c)))),[.cell 2 (some 3)]⟩
abbrev g34_S:=Sys.on [(43,g31_r),(44,g28_r),(93,g32_r)] []
@[reducible,simp] def g34l3_F:((Int×Int×Bool)×(Int×Int×Bool))→Out:=(fun t=>(.ext 0,[(2,(.ptr 0 0 0)),(3,(.ptr 1 0 0))],[(.live 3 [[(.int .i64 t.1.1),(.int .i64 t.1.2.1),(.bool t.1.2.2)]]),(.live 3 [[(.int .i64 t.2.1),(.int .i64 t.2.2.1),(.bool t.2.2.2)]])]))
def spec_l19Read_l3_b (v15:Int×Int×Bool) (v17:List Str) (v16:Int×Int×Bool) (v18:Int):Option (((Int×Int×Bool)×Int) ⊕ ((Int×Int×Bool)×(Int×Int×Bool))):=if v18≤5 then (spec_l19Words).bind fun r19=>if 0≤v18∧v18 < ((r19.length:Nat):Int) then (r19[(v18).toNat]?).bind fun x20=>if 0≤(0:Int)∧(0:Int) < ((v17.length:Nat):Int) then (v17[((0:Int)).toNat]?).bind fun x21=>if x20=x21 then some (.inl ((v18,v16.2.1,v16.2.2),(IntKind.i64.wrap (v18+1)))) else some (.inl (v16,(IntKind.i64.wrap (v18+1)))) else none else none else some (.inr (v15,v16))
theorem g34l3_b_eq  (v15:Int×Int×Bool) (v17:List Str) (v16:Int×Int×Bool) (v18:Int):X g34_S g34l3_cb (keepEnv [2,3,4,5] [(2,(.ptr 0 0 0)),(3,(.ptr 1 0 0)),(4,(ow 2 v17.length)),(5,(.int .i64 v18))]) [(.live 3 [[(.int .i64 v15.1),(.int .i64 v15.2.1),(.bool v15.2.2)]]),(.live 3 [[(.int .i64 v16.1),(.int .i64 v16.2.1),(.bool v16.2.2)]]),(ob 1 v17)]=(spec_l19Read_l3_b v15 v17 v16 v18).map (Sum.elim (fun s=>(TX.nrm,[(2,(.ptr 0 0 0)),(3,(.ptr 1 0 0)),(4,(ow 2 v17.length)),(5,(.int .i64 s.2))],[(.live 3 [[(.int .i64 v15.1),(.int .i64 v15.2.1),(.bool v15.2.2)]]),(.live 3 [[(.int .i64 s.1.1),(.int .i64 s.1.2.1),(.bool s.1.2.2)]]),(ob 1 v17)])) g34l3_F):=by
  simp (maxSteps:=2000000) (maxDischargeDepth:=8) -implicitDefEqProofs [g34l3_cb,spec_l19Read_l3_b] <;> (try simp only [map_to_bind,some_elim,g34l3_F])
def spec_l19Read_l3 (v15:Int×Int×Bool) (v17:List Str) (s:(Int×Int×Bool)×Int):Option ((Int×Int×Bool)×(Int×Int×Bool)):=loopO (fun s=>spec_l19Read_l3_b v15 v17 s.1 s.2) s
@[simp] theorem g34l3_eq (y0 y1 y2 y3 y4 y5)(y6:List Str)(y7){n1:Nat}(h1:n1=y6.length):X g34_S g34l3_c [(2,(.ptr 0 0 0)),(3,(.ptr 1 0 0)),(4,(ow 2 n1)),(5,(.int .i64 y7))] [(.live 3 [[(.int .i64 y0),(.int .i64 y1),(.bool y2)]]),(.live 3 [[(.int .i64 y3),(.int .i64 y4),(.bool y5)]]),(ob 1 y6)]=(spec_l19Read_l3 ((y0,y1,y2)) y6 ((y3,y4,y5),y7)).map g34l3_F:=by
  subst h1
  exact loop_X _ _ _ _ (by intro r;first | (simp;done) | (rcases r with r | r <;> simp;done) | (rcases r with r | r | r <;> simp;done) | (rcases r with r | r | r | r <;> simp)) (fun s=>g34l3_b_eq  ((y0,y1,y2)) y6 s.1 s.2) ((y3,y4,y5),y7)
@[reducible,simp] def g34p2_F:((Int×Int×Bool))→Out:=(fun t=>(.ret,[(2,(.ptr 0 0 0))],[(.live 3 [[(.int .i64 t.1),(.int .i64 t.2.1),(.bool t.2.2)]])]))
def spec_l19Read_p2 (v12:Int×Int×Bool) (v13:Int×Int×Bool) (v14:List Str):Option ((Int×Int×Bool)):=(spec_l19Read_l3 v12 v14 ((v13,1))).bind fun r22=>some r22.2
@[simp] theorem g34p2_eq (y0 y1 y2 y3 y4 y5)(y6:List Str){n1:Nat}(h1:n1=y6.length):X g34_S g34p2_c [(2,(.ptr 0 0 0)),(3,(.ptr 1 0 0)),(4,(ow 2 n1))] [(.live 3 [[(.int .i64 y0),(.int .i64 y1),(.bool y2)]]),(.live 3 [[(.int .i64 y3),(.int .i64 y4),(.bool y5)]]),(ob 1 y6)]=(spec_l19Read_p2 ((y0,y1,y2)) ((y3,y4,y5)) y6).map g34p2_F:=by
  subst h1
  simp (maxSteps:=2000000) (maxDischargeDepth:=8) -implicitDefEqProofs [g34p2_c,spec_l19Read_p2] <;> (try simp only [map_to_bind,some_elim,g34p2_F])
@[reducible,simp] def g34p1_F:((Int×Int×Bool))→Out:=(fun t=>(.ret,[(2,(.ptr 0 0 0))],[(.live 3 [[(.int .i64 t.1),(.int .i64 t.2.1),(.bool t.2.2)]])]))
def spec_l19Read_p1 (v3:Str) (v4:Int×Int×Bool) (v5:Int×Int×Bool):Option ((Int×Int×Bool)):=(spec_l05Split v3 40).bind fun r6=>if ((r6.length:Nat):Int) > 1 then if 0≤(1:Int)∧(1:Int) < ((r6.length:Nat):Int) then (r6[((1:Int)).toNat]?).bind fun x7=>if ¬(x7=([]:Str)) then if 0≤(1:Int)∧(1:Int) < ((r6.length:Nat):Int) then (r6[((1:Int)).toNat]?).bind fun x8=>if 0≤(1:Int)∧(1:Int) < ((r6.length:Nat):Int) then (r6[((1:Int)).toNat]?).bind fun x9=>(subL x8 none (some ((IntKind.i64.wrap ((x9.length:Int) - 1))))).bind fun s10=>(spec_l05Number s10).bind fun r11=>(spec_l19Read_p2 v4 ((v5.1,r11,v5.2.2)) r6).bind fun r23=>some r23 else none else none else (spec_l19Read_p2 v4 v5 r6).bind fun r24=>some r24 else none else (spec_l19Read_p2 v4 v5 r6).bind fun r25=>some r25
@[simp] theorem g34p1_eq (y0 y1 y2 y3 y4 y5 y6):X g34_S g34p1_c [(0,(.str y0)),(2,(.ptr 0 0 0)),(3,(.ptr 1 0 0))] [(.live 3 [[(.int .i64 y1),(.int .i64 y2),(.bool y3)]]),(.live 3 [[(.int .i64 y4),(.int .i64 y5),(.bool y6)]])]=(spec_l19Read_p1 y0 ((y1,y2,y3)) ((y4,y5,y6))).map g34p1_F:=by
  simp (maxSteps:=2000000) (maxDischargeDepth:=8) -implicitDefEqProofs [g34p1_c,spec_l19Read_p1] <;> (try simp only [map_to_bind,some_elim,g34p1_F])
def spec_l19Read (a_s:Str):Option ((Int×Int×Bool)):=if ¬(a_s=([]:Str)) then if 0≤(IntKind.i64.wrap ((a_s.length:Int) - 1)) then (a_s[((IntKind.i64.wrap ((a_s.length:Int) - 1))).toNat]?).bind fun (b1:UInt8)=>if (b1.toNat:Int)=63 then (subL a_s none (some ((IntKind.i64.wrap ((a_s.length:Int) - 1))))).bind fun s2=>(spec_l19Read_p1 s2 ((0,0,false)) ((0,0,true))).bind fun r26=>some r26 else (spec_l19Read_p1 a_s ((0,0,false)) ((0,0,false))).bind fun r27=>some r27 else none else (spec_l19Read_p1 a_s ((0,0,false)) ((0,0,false))).bind fun r28=>some r28
@[simp] def g34_O:((Int×Int×Bool))→TV×List Blk:=fun r=>((.agg [(.int .i64 r.1),(.int .i64 r.2.1),(.bool r.2.2)]),[(.live 3 [[(.int .i64 r.1),(.int .i64 r.2.1),(.bool r.2.2)]])])
def g34_E (a:Str):List TV:=[(.str a)]
theorem g34_run (a_s:Str) :callFn (X g34_S) g34_tf (g34_E a_s) []=(spec_l19Read a_s).map g34_O:=by
  rw [callFn_eq]
  simp (maxSteps:=2000000) (maxDischargeDepth:=8) -implicitDefEqProofs [g34_tf,spec_l19Read,g34_E] <;> (try simp only [map_to_bind,some_elim,g34_O])
def g34_r:Rule:=RlO g34_E (fun a=>spec_l19Read a) g34_O
theorem g34_ok:RuleOk Tryd.prog 51 g34_r:=ok_rlo (S:=g34_S) (tf:=g34_tf) (SysOk.on ⟨g31_ok,g28_ok,g32_ok,trivial⟩ trivial) (trE_ok (ks:=[[8],[2,3,4,5],[7]]) Tryd.func51 (by kernel_rfl)) fun a=>g34_run a
@[simp] theorem g34_app (y0):g34_r [(.str y0)]=(spec_l19Read y0).map g34_O :=
  RlO_app (enc:=g34_E) (by intro a b h;simp [g34_E,Prod.ext_iff] at h ⊢;simp [h]) y0
/-! spec.l00In -/
def g40_tf:TFn:=⟨(sq [mk 6 (kb false)] [0,1,2] (.seq (.after (.ops [mo 7 0,mo 8 1,bn 9 .geq (.t 7) (.t 8),mo 10 9,⟨(some 11),(some (10,true)),(.mv (.t 0))⟩,⟨(some 12),(some (10,true)),(.mv (.t 2))⟩,⟨(some 13),(some (10,true)),(.bin .num .leq (.t 11) (.t 12))⟩,pk 14 (.t 10) (.t 13) (kb false),mo 6 14]) (kp [(6,0)] [] 0)) (.keep (kp [(6,0)] [] 0) .ret))),[.t 6]⟩
abbrev g40_S:=Sys.on [] []
def spec_l00In (a_n:Int) (a_low:Int) (a_high:Int):Option (Bool):=if a_n ≥ a_low then some ((decide (a_n≤a_high))) else some false
@[simp] def g40_O:Bool→TV×List Blk:=fun r=>((.bool r),[])
def g40_E (a:Int×Int×Int):List TV:=[(.int .i64 a.1),(.int .i64 a.2.1),(.int .i64 a.2.2)]
theorem g40_run (a_n:Int) (a_low:Int) (a_high:Int) :callFn (X g40_S) g40_tf (g40_E (a_n,a_low,a_high)) []=(spec_l00In a_n a_low a_high).map g40_O:=by
  rw [callFn_eq]
  simp (maxSteps:=2000000) (maxDischargeDepth:=8) -implicitDefEqProofs [g40_tf,spec_l00In,g40_E] <;> (try simp only [map_to_bind,some_elim,g40_O])
def g40_r:Rule:=RlO g40_E (fun a=>spec_l00In a.1 a.2.1 a.2.2) g40_O
theorem g40_ok:RuleOk Tryd.prog 115 g40_r:=ok_rlo (S:=g40_S) (tf:=g40_tf) (SysOk.on trivial trivial) (trE_ok (ks:=[]) Tryd.func115 (by kernel_rfl)) fun a=>g40_run a.1 a.2.1 a.2.2
@[simp] theorem g40_app (y0 y1 y2):g40_r [(.int .i64 y0),(.int .i64 y1),(.int .i64 y2)]=(spec_l00In y0 y1 y2).map g40_O :=
  RlO_app (enc:=g40_E) (by intro a b h;simp [g40_E,Prod.ext_iff] at h ⊢;simp [h]) (y0,y1,y2)
/-! spec.l18Ok -/
def g41p1_c:TC:=(.cond (.t 35) (.seq (.ops [fa 38 1 1,ld 39 38,bn 40 .eql (.t 39) (ki 0),mo 2 40]) (.keep (kp [(2,0)] [] 0) .ret)) (.keep (kp [(1,0)] [(0,0)] 0) .skip))
def g41p2_c:TC:=(.seq (.after (.ops [fa 41 0 1,ld 42 41,bn 43 .eql (.t 42) (ki 5),mo 44 43,⟨(some 45),(some (44,true)),(.faddr 1 (.t 1))⟩,⟨(some 46),(some (44,true)),(.load none (.t 45))⟩,⟨(some 47),(some (44,true)),(.bin .num .eql (.t 46) (ki 0))⟩,pk 48 (.t 44) (.t 47) (kb false),mo 49 48,⟨(some 50),(some (49,true)),(.faddr 2 (.t 1))⟩,⟨(some 51),(some (49,true)),(.load none (.t 50))⟩,⟨(some 52),(some (49,true)),(.un .not (.t 51))⟩,pk 53 (.t 49) (.t 52) (kb false),mo 2 53]) (kp [(2,0)] [] 0)) (.keep (kp [(2,0)] [] 0) .ret))
def g41_tf:TFn:=⟨(sq [bx 1 0,mk 2 (kb false)] [1] (.seq (sq [fa 3 0 1,ld 4 3] [1,4] (.block 0 (sq [bn 6 .eql (.t 4) (ki 1),mo 5 6] [1,4,5] (.cond (.t 5) (.seq (.after (.ops [fa 7 1 1,ld 8 7,ca 9 115 [.t 8,ki 1,ki 24],mo 10 9,⟨(some 11),(some (10,true)),(.faddr 2 (.t 1))⟩,⟨(some 12),(some (10,true)),(.load none (.t 11))⟩,⟨(some 13),(some (10,true)),(.un .not (.t 12))⟩,pk 14 (.t 10) (.t 13) (kb false),mo 2 14]) (kp [(2,0)] [] 0)) (.keep (kp [(2,0)] [] 0) .ret)) (sq [bn 16 .eql (.t 4) (ki 2),mo 15 16] [1,4,15] (.cond (.t 15) (.seq (.after (.ops [fa 17 1 1,ld 18 17,bn 19 .eql (.t 18) (ki 1),mo 20 19,⟨(some 21),(some (20,false)),(.faddr 1 (.t 1))⟩,⟨(some 22),(some (20,false)),(.load none (.t 21))⟩,⟨(some 23),(some (20,false)),(.bin .num .eql (.t 22) (ki 2))⟩,pk 24 (.t 20) (kb true) (.t 23),mo 25 24,⟨(some 26),(some (25,false)),(.faddr 1 (.t 1))⟩,⟨(some 27),(some (25,false)),(.load none (.t 26))⟩,⟨(some 28),(some (25,false)),(.bin .num .eql (.t 27) (ki 4))⟩,pk 29 (.t 25) (kb true) (.t 28),mo 30 29,⟨(some 31),(some (30,true)),(.faddr 2 (.t 1))⟩,⟨(some 32),(some (30,true)),(.load none (.t 31))⟩,⟨(some 33),(some (30,true)),(.un .not (.t 32))⟩,pk 34 (.t 30) (.t 33) (kb false),mo 2 34]) (kp [(2,0)] [] 0)) (.keep (kp [(2,0)] [] 0) .ret)) (.seq (sq [bn 36 .eql (.t 4) (ki 3),mo 35 36] [1,4,35] (.cond (.t 35) (.keep (kp [(1,0),(35,0)] [(0,0)] 0) .skip) (.after (.ops [bn 37 .eql (.t 4) (ki 4),mo 35 37]) (kp [(1,0),(35,0)] [(0,0)] 0)))) (.trim [1,35] g41p1_c)))))))) (.trim [1] g41p2_c))),[.t 2]⟩
abbrev g41_S:=Sys.on [(115,g40_r)] []
@[reducible,simp] def g41p1_F:((Bool) ⊕ ((Int×Int×Bool)))→Out:=(Sum.elim (fun t=>(.ret,[(2,(.bool t))],[])) (fun t=>(.nrm,[(1,(.ptr 0 0 0))],[(.live 3 [[(.int .i64 t.1),(.int .i64 t.2.1),(.bool t.2.2)]])])))
def spec_l18Ok_p1 (v2:Int×Int×Bool) (v3:Bool):Option ((Bool) ⊕ ((Int×Int×Bool))):=if v3=true then some ((.inl ((decide (v2.2.1=0))))) else some ((.inr v2))
@[simp] theorem g41p1_eq (y0 y1 y2 y3):X g41_S g41p1_c [(1,(.ptr 0 0 0)),(35,(.bool y3))] [(.live 3 [[(.int .i64 y0),(.int .i64 y1),(.bool y2)]])]=(spec_l18Ok_p1 ((y0,y1,y2)) y3).map g41p1_F:=by
  simp (maxSteps:=2000000) (maxDischargeDepth:=8) -implicitDefEqProofs [g41p1_c,spec_l18Ok_p1] <;> (try simp only [map_to_bind,some_elim,g41p1_F])
@[reducible,simp] def g41p2_F:Bool→Out:=(fun t=>(.ret,[(2,(.bool t))],[]))
def spec_l18Ok_p2 (v10:Int×Int×Bool):Option (Bool):=if v10.1=5 then if v10.2.1=0 then some (((!v10.2.2))) else some false else some false
@[simp] theorem g41p2_eq (y0 y1 y2):X g41_S g41p2_c [(1,(.ptr 0 0 0))] [(.live 3 [[(.int .i64 y0),(.int .i64 y1),(.bool y2)]])]=(spec_l18Ok_p2 ((y0,y1,y2))).map g41p2_F:=by
  simp (maxSteps:=2000000) (maxDischargeDepth:=8) -implicitDefEqProofs [g41p2_c,spec_l18Ok_p2] <;> (try simp only [map_to_bind,some_elim,g41p2_F])
def spec_l18Ok (a_f:Int×Int×Bool):Option (Bool):=if a_f.1=1 then (spec_l00In a_f.2.1 1 24).bind fun r1=>if r1=true then some ((!a_f.2.2)) else some false else if a_f.1=2 then if a_f.2.1=1 then some ((!a_f.2.2)) else if a_f.2.1=2 then some ((!a_f.2.2)) else if a_f.2.1=4 then some ((!a_f.2.2)) else some false else if a_f.1=3 then (spec_l18Ok_p1 a_f ((decide (a_f.1=3)))).bind fun r4=>Sum.elim (fun u5=>some u5) (fun u6=>(spec_l18Ok_p2 u6).bind fun r11=>some r11) r4 else (spec_l18Ok_p1 a_f ((decide (a_f.1=4)))).bind fun r7=>Sum.elim (fun u8=>some u8) (fun u9=>(spec_l18Ok_p2 u9).bind fun r12=>some r12) r7
@[simp] def g41_O:Bool→TV×List Blk:=fun r=>((.bool r),[])
def g41_E (a:(Int×Int×Bool)):List TV:=[(.agg [(.int .i64 a.1),(.int .i64 a.2.1),(.bool a.2.2)])]
theorem g41_run (a_f:Int×Int×Bool) :callFn (X g41_S) g41_tf (g41_E a_f) []=(spec_l18Ok a_f).map g41_O:=by
  rw [callFn_eq]
  simp (maxSteps:=2000000) (maxDischargeDepth:=8) -implicitDefEqProofs [g41_tf,spec_l18Ok,g41_E] <;> (try simp only [map_to_bind,some_elim,g41_O])
def g41_r:Rule:=RlO g41_E (fun a=>spec_l18Ok a) g41_O
theorem g41_ok:RuleOk Tryd.prog 131 g41_r:=ok_rlo (S:=g41_S) (tf:=g41_tf) (SysOk.on ⟨g40_ok,trivial⟩ trivial) (trE_ok (ks:=[]) Tryd.func131 (by kernel_rfl)) fun a=>g41_run a
@[simp] theorem g41_app (y0 y1 y2):g41_r [(.agg [(.int .i64 y0),(.int .i64 y1),(.bool y2)])]=(spec_l18Ok ((y0,y1,y2))).map g41_O :=
  RlO_app (enc:=g41_E) (by intro a b h;simp [g41_E,Prod.ext_iff] at h ⊢;simp [h]) ((y0,y1,y2))
/-! spec.l19Ok -/
def g42l1_cb:TC:=(.seq (sq [mo 4 3,mo 5 0,le 6 5,bn 7 .lss (.t 4) (.t 6)] [0,3,7] (.cond (.t 7) .skip (.keep (kp [(0,0)] [] 0) (.exit 0)))) (.trim [0,3] (.seq (.block 1 (sq [mo 10 0,mo 11 3,ia 12 3 10 11,ln 13 3 12,ca 14 131 [.t 13],nt 15 14] [0,3,15] (.cond (.t 15) (.seq (.ops [mk 2 (kb false)]) (.keep (kp [(2,0)] [] 0) .ret)) .skip))) (.trim [0,3] (.after (.ops [mo 8 3,bn 9 .add (.t 8) (ki 1),mo 3 9]) (kp [(0,0),(3,0)] [] 0))))))
def g42l1_c:TC:=.loop [0,3] g42l1_cb
def g42_tf:TFn:=⟨(sq [mk 2 (kb false)] [0] (.seq (sq [mk 3 (ki 0)] [0,3] (.block 0 (.keep (kp [(0,0),(3,0)] [] 0) g42l1_c))) (.trim [0] (.seq (.ops [mo 16 0,le 17 16,bn 18 .leq (.t 17) (ki 4),mo 2 18]) (.keep (kp [(2,0)] [] 0) .ret))))),[.t 2]⟩
abbrev g42_S:=Sys.on [(131,g41_r)] []
@[reducible,simp] def g42l1_F:(((List (Int×Int×Bool))) ⊕ (Bool))→Out:=(Sum.elim (fun t=>(.ext 0,[(0,(.vs (rows t)))],[])) (fun t=>(.ret,[(2,(.bool t))],[])))
def spec_l19Ok_l1_b (v1:List (Int×Int×Bool)) (v2:Int):Option ((Int) ⊕ (((List (Int×Int×Bool))) ⊕ (Bool))):=if v2 < (v1.length:Int) then if 0≤v2 then (v1[(v2).toNat]?).bind fun x3=>(spec_l18Ok x3).bind fun r4=>if ¬(r4=true) then some (.inr (.inr false)) else some (.inl ((IntKind.i64.wrap (v2+1)))) else none else some (.inr (.inl v1))
theorem g42l1_b_eq  (v1:List (Int×Int×Bool)) (v2:Int):X g42_S g42l1_cb (keepEnv [0,3] [(0,(.vs (rows v1))),(3,(.int .i64 v2))]) []=(spec_l19Ok_l1_b v1 v2).map (Sum.elim (fun s=>(TX.nrm,[(0,(.vs (rows v1))),(3,(.int .i64 s))],[])) g42l1_F):=by
  simp (maxSteps:=2000000) (maxDischargeDepth:=8) -implicitDefEqProofs [g42l1_cb,spec_l19Ok_l1_b] <;> (try simp only [map_to_bind,some_elim,g42l1_F])
def spec_l19Ok_l1 (v1:List (Int×Int×Bool)) (s:Int):Option (((List (Int×Int×Bool))) ⊕ (Bool)):=loopO (fun s=>spec_l19Ok_l1_b v1 s) s
@[simp] theorem g42l1_eq (y0 y1):X g42_S g42l1_c [(0,(.vs (rows y0))),(3,(.int .i64 y1))] []=(spec_l19Ok_l1 y0 y1).map g42l1_F:=by
  exact loop_X _ _ _ _ (by intro r;first | (simp;done) | (rcases r with r | r <;> simp;done) | (rcases r with r | r | r <;> simp;done) | (rcases r with r | r | r | r <;> simp)) (fun s=>g42l1_b_eq  y0 s) y1
def spec_l19Ok (a_list:List (Int×Int×Bool)):Option (Bool):=(spec_l19Ok_l1 a_list 0).bind fun r5=>Sum.elim (fun u6=>some ((decide ((u6.length:Int)≤4)))) (fun u7=>some u7) r5
@[simp] def g42_O:Bool→TV×List Blk:=fun r=>((.bool r),[])
def g42_E (a:(List (Int×Int×Bool))):List TV:=[(.vs (rows a))]
theorem g42_run (a_list:List (Int×Int×Bool)) :callFn (X g42_S) g42_tf (g42_E a_list) []=(spec_l19Ok a_list).map g42_O:=by
  rw [callFn_eq]
  simp (maxSteps:=2000000) (maxDischargeDepth:=8) -implicitDefEqProofs [g42_tf,spec_l19Ok,g42_E] <;> (try simp only [map_to_bind,some_elim,g42_O])
def g42_r:Rule:=RlO g42_E (fun a=>spec_l19Ok a) g42_O
theorem g42_ok:RuleOk Tryd.prog 94 g42_r:=ok_rlo (S:=g42_S) (tf:=g42_tf) (SysOk.on ⟨g41_ok,trivial⟩ trivial) (trE_ok (ks:=[[0,3]]) Tryd.func94 (by kernel_rfl)) fun a=>g42_run a
@[simp] theorem g42_app (y0):g42_r [(.vs (rows y0))]=(spec_l19Ok y0).map g42_O :=
  RlO_app (enc:=g42_E) (by intro a b h;simp [g42_E,Prod.ext_iff] at h ⊢;simp [h]) y0
/-! spec.l05Digits -/
def g29_tf:TFn:=⟨(sq [mk 2 (.c (.str []))] [0] (.seq (sq [mo 3 0,bn 4 .lss (.t 3) (ki 0)] [0,4] (.cond (.t 4) (.seq (.ops [mo 5 0,oo 6 (.un .neg (.t 5)),ca 7 78 [.t 6],oo 8 (.bin .str .add (.c (.str [45])) (.t 7)),mo 2 8]) (.keep (kp [(2,0)] [] 0) .ret)) .skip)) (.trim [0] (.seq (sq [mo 9 0,bn 10 .lss (.t 9) (ki 10)] [0,10] (.cond (.t 10) (.seq (.ops [mo 11 0,bn 12 .add (ki 48) (.t 11),oo 13 (.conv (.toInt .u8) (.t 12)),oo 14 (.bslice [(.int .u8 0)] 1 [(0,(.t 13))]),oo 15 (.conv .toStr (.t 14)),mo 2 15]) (.keep (kp [(2,0)] [] 0) .ret)) .skip)) (.trim [0] (.seq (.draw [([],mo 16 0),([0],bn 17 .quo (.t 16) (ki 10)),([0,1],ca 18 78 [.t 17]),([],mo 19 0),([3],bn 20 .rem (.t 19) (ki 10)),([3,4],bn 21 .add (ki 48) (.t 20)),([3,4,5],oo 22 (.conv (.toInt .u8) (.t 21))),([3,4,5,6],oo 23 (.bslice [(.int .u8 0)] 1 [(0,(.t 22))])),([3,4,5,6,7],oo 24 (.conv .toStr (.t 23)))] [oo 25 (.bin .str .add (.t 18) (.t 24)),mo 2 25]) (.keep (kp [(2,0)] [] 0) .ret))))))),[.t 2]⟩
@[simp] def g29_O:Str→TV×List Blk:=fun r=>((.str r),[])
def g29_E (a:Int):List TV:=[(.int .i64 a)]
abbrev spec_l05Digits_R:=(Int→Option (Str))
def spec_l05Digits_q (r:spec_l05Digits_R):Rule:=RlO g29_E (fun a=>r a) g29_O
@[simp] theorem spec_l05Digits_qapp {r:spec_l05Digits_R} (a_n:Int) :(spec_l05Digits_q r) [(.int .i64 a_n)]=(r a_n).map g29_O :=
  RlO_app (enc:=g29_E) (by intro a b h;simp [g29_E,Prod.ext_iff] at h ⊢;simp [h]) a_n
abbrev g29_S (r:spec_l05Digits_R):=Sys.on [(78,spec_l05Digits_q r)] []
def spec_l05Digits_W (r:spec_l05Digits_R) (a_n:Int):Option (Str):=if a_n < 0 then (r ((IntKind.i64.wrap (0 - a_n)))).bind fun r1=>if (([45]:Str)).length+r1.length≤9223372036854775807 then some ((([45]:Str)++r1)) else none else if a_n < 10 then some ((((lit [(⟨UInt8.ofNat ((IntKind.u8.wrap ((IntKind.i64.wrap (48+a_n))))).toNat⟩:Bt)]:List Bt)).map Bt.v)) else (r ((IntKind.i64.wrap (Int.tdiv a_n 10)))).bind fun r2=>if r2.length+((((lit [(⟨UInt8.ofNat ((IntKind.u8.wrap ((IntKind.i64.wrap (48+(Int.tmod a_n 10)))))).toNat⟩:Bt)]:List Bt)).map Bt.v)).length≤9223372036854775807 then some ((r2++(((lit [(⟨UInt8.ofNat ((IntKind.u8.wrap ((IntKind.i64.wrap (48+(Int.tmod a_n 10)))))).toNat⟩:Bt)]:List Bt)).map Bt.v))) else none
theorem g29_run {r:spec_l05Digits_R} (a_n:Int) :callFn (X (g29_S r)) g29_tf (g29_E a_n) []=(spec_l05Digits_W r a_n).map g29_O:=by
  rw [callFn_eq]
  simp (maxSteps:=2000000) (maxDischargeDepth:=8) -implicitDefEqProofs [g29_tf,spec_l05Digits_W,g29_E,bslV_lit (α:=Bt) (zs:=[(.int .u8 0)])] <;> (try simp only [map_to_bind,some_elim,g29_O])
noncomputable def spec_l05Digits_it (n:Nat):spec_l05Digits_R:=Nat.rec (motive:=fun _=>spec_l05Digits_R) (fun _=>none) (fun _ r=>(spec_l05Digits_W r)) n
noncomputable def spec_l05Digits (a_n:Int):Option (Str):=evO fun n=>((spec_l05Digits_it n)) a_n
theorem spec_l05Digits_oks:∀ n,(RuleOk Tryd.prog 78 (spec_l05Digits_q (spec_l05Digits_it n)))
  | 0=>ok_none (tf:=g29_tf) (trE_ok (ks:=[[9]]) Tryd.func78 (by kernel_rfl))
  | n+1=>by
    have ih:=spec_l05Digits_oks n
    exact ok_rlo (S:=(g29_S (spec_l05Digits_it n))) (tf:=g29_tf) (SysOk.on ⟨(ih),trivial⟩ trivial) (trE_ok (ks:=[[9]]) Tryd.func78 (by kernel_rfl)) fun a=>g29_run a
def g29_r:Rule:=RlO g29_E (fun a=>spec_l05Digits a) g29_O
@[simp] theorem g29_app (y0):g29_r [(.int .i64 y0)]=(spec_l05Digits y0).map g29_O :=
  RlO_app (enc:=g29_E) (by intro a b h;simp [g29_E,Prod.ext_iff] at h ⊢;simp [h]) y0
theorem g29_ok:RuleOk Tryd.prog 78 g29_r:=ok_ev fun n=>(spec_l05Digits_oks n)
/-! spec.PipelineText -/
def g18p3_c:TC:=(sq [fa 43 2 5,ld 44 43] [0,3,4,44] (.cond (.t 44) (.after (.ops [mo 45 3,oo 46 (.bin .str .add (.t 45) (.c (.str [63]))),mo 3 46]) (kp [(0,0),(3,0),(4,0)] [] 0)) (.keep (kp [(0,0),(3,0),(4,0)] [] 0) .skip)))
def g18p2_c:TC:=(.seq (.draw [([],mo 26 3),([],ca 27 93 []),([],fa 28 0 5),([2],ld 29 28),([1,2,3],ia 30 1 27 29),([1,2,3,4],ld 31 30)] [oo 32 (.bin .str .add (.t 26) (.t 31)),mo 3 32]) (.trim [0,3,4,5] (.seq (sq [fa 33 1 5,ld 34 33,bn 35 .gtr (.t 34) (ki 0)] [0,3,4,5,35] (.cond (.t 35) (.after (.ops [mo 36 3,fa 37 1 5,ld 38 37,ca 39 78 [.t 38],oo 40 (.bin .str .add (.c (.str [40])) (.t 39)),oo 41 (.bin .str .add (.t 40) (.c (.str [41]))),oo 42 (.bin .str .add (.t 36) (.t 41)),mo 3 42]) (kp [(0,0),(3,0),(4,0),(5,0)] [(0,0)] 0)) (.keep (kp [(0,0),(3,0),(4,0),(5,0)] [(0,0)] 0) .skip))) (.trim [0,3,4,5] g18p3_c))))
def g18l1_cb:TC:=(.seq (sq [mo 12 4,mo 13 0,le 14 13,bn 15 .lss (.t 12) (.t 14)] [0,3,4,15] (.cond (.t 15) .skip (.keep (kp [(3,0)] [] 0) (.exit 0)))) (.trim [0,3,4] (.seq (.block 1 (sq [mo 18 0,mo 19 4,ia 20 3 18 19,ln 21 3 20,oo 5 (.alloc [(.int .i64 0),(.int .i64 0),(.bool false)]),⟨none,none,(.store 3 (.t 5) (.t 21))⟩] [0,3,4,5] (.seq (sq [mo 22 4,bn 23 .gtr (.t 22) (ki 0)] [0,3,4,5,23] (.cond (.t 23) (.after (.ops [mo 24 3,oo 25 (.bin .str .add (.t 24) (.c (.str [43]))),mo 3 25]) (kp [(0,0),(3,0),(4,0),(5,0)] [(0,0)] 0)) (.keep (kp [(0,0),(3,0),(4,0),(5,0)] [(0,0)] 0) .skip))) (.trim [0,3,4,5] g18p2_c)))) (.trim [0,3,4] (.after (.ops [mo 16 4,bn 17 .add (.t 16) (ki 1),mo 4 17]) (kp [(0,0),(3,0),(4,0)] [] 0))))))
def g18l1_c:TC:=.loop [0,3,4] g18l1_cb
def g18_tf:TFn:=⟨(sq [mk 2 (.c (.str []))] [0] (.seq (sq [mo 6 0,ca 7 94 [.t 6],nt 8 7] [0,8] (.cond (.t 8) (.seq (.ops [mk 2 (.c (.str []))]) (.keep (kp [(2,0)] [] 0) .ret)) .skip)) (.trim [0] (.seq (sq [mo 9 0,le 10 9,bn 11 .eql (.t 10) (ki 0)] [0,11] (.cond (.t 11) (.seq (.ops [mk 2 (.c (.str [110,111,110,101]))]) (.keep (kp [(2,0)] [] 0) .ret)) .skip)) (.trim [0] (sq [mk 3 (.c (.str []))] [0,3] (.seq (sq [mk 4 (ki 0)] [0,3,4] (.block 0 (.keep (kp [(0,0),(3,0),(4,0)] [] 0) g18l1_c))) (.trim [3] (.seq (.ops [mo 47 3,mo 2 47]) (.keep (kp [(2,0)] [] 0) .ret)))))))))),[.t 2]⟩
abbrev g18_S:=Sys.on [(94,g42_r),(93,g32_r),(78,g29_r)] []
@[reducible,simp] def g18p3_F:((List (Int×Int×Bool))×Str×Int)→Out:=(fun t=>(.nrm,[(0,(.vs (rows t.1))),(3,(.str t.2.1)),(4,(.int .i64 t.2.2))],[]))
def spec_PipelineText_p3 (v13:List (Int×Int×Bool)) (v14:Str) (v15:Int) (v16:Int×Int×Bool):Option ((List (Int×Int×Bool))×Str×Int):=if v16.2.2=true then if v14.length+(([63]:Str)).length≤9223372036854775807 then some ((v13,(v14++([63]:Str)),v15)) else none else some ((v13,v14,v15))
@[simp] theorem g18p3_eq (y0 y1 y2 y3 y4 y5):X g18_S g18p3_c [(0,(.vs (rows y0))),(3,(.str y1)),(4,(.int .i64 y2)),(5,(.ptr 0 0 0))] [(.live 3 [[(.int .i64 y3),(.int .i64 y4),(.bool y5)]])]=(spec_PipelineText_p3 y0 y1 y2 ((y3,y4,y5))).map g18p3_F:=by
  simp (maxSteps:=2000000) (maxDischargeDepth:=8) -implicitDefEqProofs [g18p3_c,spec_PipelineText_p3] <;> (try simp only [map_to_bind,some_elim,g18p3_F])
@[reducible,simp] def g18p2_F:((List (Int×Int×Bool))×Str×Int)→Out:=(fun t=>(.nrm,[(0,(.vs (rows t.1))),(3,(.str t.2.1)),(4,(.int .i64 t.2.2))],[]))
def spec_PipelineText_p2 (v6:List (Int×Int×Bool)) (v7:Str) (v8:Int) (v9:Int×Int×Bool):Option ((List (Int×Int×Bool))×Str×Int):=(spec_l19Words).bind fun r10=>if 0≤v9.1∧v9.1 < ((r10.length:Nat):Int) then (r10[(v9.1).toNat]?).bind fun x11=>if v7.length+x11.length≤9223372036854775807 then if v9.2.1 > 0 then (spec_l05Digits v9.2.1).bind fun r12=>if (([40]:Str)).length+r12.length≤9223372036854775807 then if ((([40]:Str)++r12)).length+(([41]:Str)).length≤9223372036854775807 then if ((v7++x11)).length+(((([40]:Str)++r12)++([41]:Str))).length≤9223372036854775807 then (spec_PipelineText_p3 v6 (((v7++x11)++((([40]:Str)++r12)++([41]:Str)))) v8 v9).bind fun r17=>some ((r17.1,r17.2.1,r17.2.2)) else none else none else none else (spec_PipelineText_p3 v6 ((v7++x11)) v8 v9).bind fun r18=>some ((r18.1,r18.2.1,r18.2.2)) else none else none
@[simp] theorem g18p2_eq (y0 y1 y2 y3 y4 y5):X g18_S g18p2_c [(0,(.vs (rows y0))),(3,(.str y1)),(4,(.int .i64 y2)),(5,(.ptr 0 0 0))] [(.live 3 [[(.int .i64 y3),(.int .i64 y4),(.bool y5)]])]=(spec_PipelineText_p2 y0 y1 y2 ((y3,y4,y5))).map g18p2_F:=by
  simp (maxSteps:=2000000) (maxDischargeDepth:=8) -implicitDefEqProofs [g18p2_c,spec_PipelineText_p2] <;> (try simp only [map_to_bind,some_elim,g18p2_F])
@[reducible,simp] def g18l1_F:Str→Out:=(fun t=>(.ext 0,[(3,(.str t))],[]))
def spec_PipelineText_l1_b (v2:List (Int×Int×Bool)) (v3:Str) (v4:Int):Option (((List (Int×Int×Bool))×Str×Int) ⊕ (Str)):=if v4 < (v2.length:Int) then if 0≤v4 then (v2[(v4).toNat]?).bind fun x5=>if v4 > 0 then if v3.length+(([43]:Str)).length≤9223372036854775807 then (spec_PipelineText_p2 v2 ((v3++([43]:Str))) v4 x5).bind fun r19=>some (.inl (r19.1,r19.2.1,(IntKind.i64.wrap (r19.2.2+1)))) else none else (spec_PipelineText_p2 v2 v3 v4 x5).bind fun r20=>some (.inl (r20.1,r20.2.1,(IntKind.i64.wrap (r20.2.2+1)))) else none else some (.inr v3)
theorem g18l1_b_eq  (v2:List (Int×Int×Bool)) (v3:Str) (v4:Int):X g18_S g18l1_cb (keepEnv [0,3,4] [(0,(.vs (rows v2))),(3,(.str v3)),(4,(.int .i64 v4))]) []=(spec_PipelineText_l1_b v2 v3 v4).map (Sum.elim (fun s=>(TX.nrm,[(0,(.vs (rows s.1))),(3,(.str s.2.1)),(4,(.int .i64 s.2.2))],[])) g18l1_F):=by
  simp (maxSteps:=2000000) (maxDischargeDepth:=8) -implicitDefEqProofs [g18l1_cb,spec_PipelineText_l1_b] <;> (try simp only [map_to_bind,some_elim,g18l1_F])
def spec_PipelineText_l1  (s:(List (Int×Int×Bool))×Str×Int):Option (Str):=loopO (fun s=>spec_PipelineText_l1_b  s.1 s.2.1 s.2.2) s
@[simp] theorem g18l1_eq (y0 y1 y2):X g18_S g18l1_c [(0,(.vs (rows y0))),(3,(.str y1)),(4,(.int .i64 y2))] []=(spec_PipelineText_l1  (y0,y1,y2)).map g18l1_F:=by
  exact loop_X _ _ _ _ (by intro r;first | (simp;done) | (rcases r with r | r <;> simp;done) | (rcases r with r | r | r <;> simp;done) | (rcases r with r | r | r | r <;> simp)) (fun s=>g18l1_b_eq   s.1 s.2.1 s.2.2) (y0,y1,y2)
def spec_PipelineText (a_list:List (Int×Int×Bool)):Option (Str):=(spec_l19Ok a_list).bind fun r1=>if ¬(r1=true) then some (([]:Str)) else if (a_list.length:Int)=0 then some (([110,111,110,101]:Str)) else (spec_PipelineText_l1 ((a_list,([]:Str),0))).bind fun r21=>some r21
@[simp] def g18_O:Str→TV×List Blk:=fun r=>((.str r),[])
def g18_E (a:(List (Int×Int×Bool))):List TV:=[(.vs (rows a))]
theorem g18_run (a_list:List (Int×Int×Bool)) :callFn (X g18_S) g18_tf (g18_E a_list) []=(spec_PipelineText a_list).map g18_O:=by
  rw [callFn_eq]
  simp (maxSteps:=2000000) (maxDischargeDepth:=8) -implicitDefEqProofs [g18_tf,spec_PipelineText,g18_E] <;> (try simp only [map_to_bind,some_elim,g18_O])
def g18_r:Rule:=RlO g18_E (fun a=>spec_PipelineText a) g18_O
theorem g18_ok:RuleOk Tryd.prog 52 g18_r:=ok_rlo (S:=g18_S) (tf:=g18_tf) (SysOk.on ⟨g42_ok,g32_ok,g29_ok,trivial⟩ trivial) (trE_ok (ks:=[[0,3,4],[6]]) Tryd.func52 (by kernel_rfl)) fun a=>g18_run a
@[simp] theorem g18_app (y0):g18_r [(.vs (rows y0))]=(spec_PipelineText y0).map g18_O :=
  RlO_app (enc:=g18_E) (by intro a b h;simp [g18_E,Prod.ext_iff] at h ⊢;simp [h]) y0
@[simp] theorem g18_app_a_list :g18_r [(.vs [])]=(spec_PipelineText (([]:List (Int×Int×Bool)))).map g18_O :=
  g18_app ([]:List (Int×Int×Bool)) 
/-! spec.ReadPipeline -/
def g19l1_cb:TC:=(.seq (sq [mo 13 6,mo 14 5,le 15 14,bn 16 .lss (.t 13) (.t 15),mo 17 16,⟨(some 18),(some (17,true)),(.mv (.t 6))⟩,⟨(some 19),(some (17,true)),(.bin .num .leq (.t 18) (ki 4))⟩,pk 20 (.t 17) (.t 19) (kb false)] [0,4,5,6,20] (.cond (.t 20) .skip (.keep (kp [(0,0),(4,1)] [(0,1)] 0) (.exit 0)))) (.trim [0,4,5,6] (.seq (.block 1 (.ops [mo 23 4,mo 24 5,mo 25 6,ia 26 1 24 25,ld 27 26,ca 28 51 [.t 27],oo 29 (.bslice [(.int .i64 0),(.int .i64 0),(.bool false)] 1 [(0,(.t 28))]),oo 30 (.append 80 3 24 (.t 23) (.t 29)),mo 4 30])) (.trim [0,4,5,6] (.after (.ops [mo 21 6,bn 22 .add (.t 21) (ki 1),mo 6 22]) (kp [(0,0),(4,1),(5,1),(6,0)] [(4,1),(1,1)] 0))))))
def g19l1_c:TC:=.loop [0,4,5,6] g19l1_cb
def g19_tf:TFn:=⟨(sq [mk 2 (.c .nils),mk 3 (kb false)] [0] (sq [oo 7 (.bslice [(.int .i64 0),(.int .i64 0),(.bool false)] 0 []),mo 4 7] [0,4] (.seq (sq [mo 8 0,oo 9 (.bin .str .eql (.t 8) (.c (.str [110,111,110,101])))] [0,4,9] (.cond (.t 9) (.seq (.ops [mo 10 4,mo 2 10,mk 3 (kb true)]) (.keep (kp [(2,1),(3,0)] [(1000,1)] 0) .ret)) .skip)) (.trim [0,4] (sq [mo 11 0,ca 12 43 [.t 11,(.c (.int .u8 43))],mo 5 12] [0,4,5] (.seq (sq [mk 6 (ki 0)] [0,4,5,6] (.block 0 (.keep (kp [(0,0),(4,1),(5,1),(6,0)] [(1000,1),(0,1)] 0) g19l1_c))) (.trim [0,4] (.seq (sq [mo 31 4,ca 32 52 [.t 31],mo 33 0,oo 34 (.bin .str .neq (.t 32) (.t 33)),mo 35 34,⟨(some 36),(some (35,false)),(.mv (.t 0))⟩,⟨(some 37),(some (35,false)),(.bin .str .eql (.t 36) (.c (.str [])))⟩,pk 38 (.t 35) (kb true) (.t 37)] [4,38] (.cond (.t 38) (.seq (.ops [mk 2 (.c .nils),mk 3 (kb false)]) (.keep (kp [(2,1),(3,0)] [(1000,1)] 0) .ret)) .skip)) (.trim [4] (.seq (.ops [mo 39 4,mo 2 39,mk 3 (kb true)]) (.keep (kp [(2,1),(3,0)] [(0,1)] 0) .ret))))))))))),[.t 2,.t 3]⟩
abbrev g19_S:=Sys.on [(43,g31_r),(51,g34_r),(52,g18_r)] []
@[reducible,simp] def g19l1_F:(Str×(List (Int×Int×Bool)))→Out:=(fun t=>(.ext 0,[(0,(.str t.1)),(4,(ow 0 t.2.length))],[(ob 3 t.2)]))
def spec_ReadPipeline_l1_b (v2:Str) (v4:List Str) (v3:List (Int×Int×Bool)) (v5:Int):Option (((List (Int×Int×Bool))×Int) ⊕ (Str×(List (Int×Int×Bool)))):=if v5 < ((v4.length:Nat):Int) then if v5≤4 then if 0≤v5∧v5 < ((v4.length:Nat):Int) then (v4[(v5).toNat]?).bind fun x6=>(spec_l19Read x6).bind fun r7=>(appL 24 v3 ((lit [(r7.1,r7.2.1,r7.2.2)]:List (Int×Int×Bool)))).bind fun l8=>some (.inl (l8,(IntKind.i64.wrap (v5+1)))) else none else some (.inr (v2,v3)) else some (.inr (v2,v3))
theorem g19l1_b_eq  (v2:Str) (v4:List Str) (v3:List (Int×Int×Bool)) (v5:Int):X g19_S g19l1_cb (keepEnv [0,4,5,6] [(0,(.str v2)),(4,(ow 0 v3.length)),(5,(ow 1 v4.length)),(6,(.int .i64 v5))]) [(ob 3 v3),(ob 1 v4)]=(spec_ReadPipeline_l1_b v2 v4 v3 v5).map (Sum.elim (fun s=>(TX.nrm,[(0,(.str v2)),(4,(ow 0 s.1.length)),(5,(ow 1 v4.length)),(6,(.int .i64 s.2))],[(ob 3 s.1),(ob 1 v4)])) g19l1_F):=by
  simp (maxSteps:=2000000) (maxDischargeDepth:=8) -implicitDefEqProofs [g19l1_cb,spec_ReadPipeline_l1_b,bslV_lit (α:=Int×Int×Bool) (zs:=[(.int .i64 0),(.int .i64 0),(.bool false)])] <;> (try simp only [map_to_bind,some_elim,g19l1_F])
def spec_ReadPipeline_l1 (v2:Str) (v4:List Str) (s:(List (Int×Int×Bool))×Int):Option (Str×(List (Int×Int×Bool))):=loopO (fun s=>spec_ReadPipeline_l1_b v2 v4 s.1 s.2) s
@[simp] theorem g19l1_eq (y0)(y1:List (Int×Int×Bool))(y2:List Str)(y3){n1:Nat}(h1:n1=y1.length){n2:Nat}(h2:n2=y2.length):X g19_S g19l1_c [(0,(.str y0)),(4,(ow 0 n1)),(5,(ow 1 n2)),(6,(.int .i64 y3))] [(ob 3 y1),(ob 1 y2)]=(spec_ReadPipeline_l1 y0 y2 (y1,y3)).map g19l1_F:=by
  subst h1 h2
  exact loop_X _ _ _ _ (by intro r;first | (simp;done) | (rcases r with r | r <;> simp;done) | (rcases r with r | r | r <;> simp;done) | (rcases r with r | r | r | r <;> simp)) (fun s=>g19l1_b_eq  y0 y2 s.1 s.2) (y1,y3)
@[simp] theorem g19l1_eq_1 (y0)(y1:List Str)(y2){n1:Nat}(h1:n1=y1.length):X g19_S g19l1_c [(0,(.str y0)),(4,.es),(5,(ow 1 n1)),(6,(.int .i64 y2))] [.dead,(ob 1 y1)]=(spec_ReadPipeline_l1 y0 y1 (([]:List (Int×Int×Bool)),y2)).map g19l1_F :=
  g19l1_eq  y0 ([]:List (Int×Int×Bool)) y1 y2 rfl h1
def spec_ReadPipeline (a_s:Str):Option ((List (Int×Int×Bool))×Bool):=if a_s=([110,111,110,101]:Str) then some (([]:List (Int×Int×Bool)),true) else (spec_l05Split a_s 43).bind fun r1=>(spec_ReadPipeline_l1 a_s r1 ((([]:List (Int×Int×Bool)),0))).bind fun r9=>(spec_PipelineText r9.2).bind fun r10=>if ¬(r10=r9.1) then some (([]:List (Int×Int×Bool)),false) else if r9.1=([]:Str) then some (([]:List (Int×Int×Bool)),false) else some (r9.2,true)
@[simp] def g19_O:((List (Int×Int×Bool))×Bool)→TV×List Blk:=fun r=>((.tup [(ow 0 r.1.length),(.bool r.2)]),[(ob 3 r.1)])
def g19_E (a:Str):List TV:=[(.str a)]
theorem g19_run (a_s:Str) :callFn (X g19_S) g19_tf (g19_E a_s) []=(spec_ReadPipeline a_s).map g19_O:=by
  rw [callFn_eq]
  simp (maxSteps:=2000000) (maxDischargeDepth:=8) -implicitDefEqProofs [g19_tf,spec_ReadPipeline,g19_E,bslV_lit (α:=Int×Int×Bool) (zs:=[(.int .i64 0),(.int .i64 0),(.bool false)])] <;> (try simp only [map_to_bind,some_elim,g19_O])
def g19_r:Rule:=RlO g19_E (fun a=>spec_ReadPipeline a) g19_O
theorem g19_ok:RuleOk Tryd.prog 18 g19_r:=ok_rlo (S:=g19_S) (tf:=g19_tf) (SysOk.on ⟨g31_ok,g34_ok,g18_ok,trivial⟩ trivial) (trE_ok (ks:=[[0,4,5,6]]) Tryd.func18 (by kernel_rfl)) fun a=>g19_run a
@[simp] theorem g19_app (y0):g19_r [(.str y0)]=(spec_ReadPipeline y0).map g19_O :=
  RlO_app (enc:=g19_E) (by intro a b h;simp [g19_E,Prod.ext_iff] at h ⊢;simp [h]) y0
end
end Go.Proofs.TM
