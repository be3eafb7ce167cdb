/- Functions of the program, as functions of their data: written by program. -/
import Derived.Test.YtlajjnljeebkkaaDoorNT2
namespace Go.Proofs.TM
open Go Go.Proofs
set_option linter.unusedVariables false
set_option linter.unusedSimpArgs false
set_option maxHeartbeats 1000000
attribute [-simp] Option.map_bind strV_some
attribute [simp] guardOn_bool sA_bslice Function.comp_def
noncomputable section
/-! (*spec.l00Src).text -/
def g12_tf:TFn:=⟨(sq [mk 4 (.c (.str []))] [0,1] (.seq (.ops [mo 5 1,mo 6 0,mo 7 1,le 8 7,oo 9 (.callM 67 0 [0] [.t 6,.t 8]),ia 10 1 5 9,ld 11 10,mo 4 11]) (.keep (kp [(4,0)] [(0,0),(1,0)] 2) .ret))),[.t 4]⟩
abbrev g12_S:=Sys.on [] [((67,0),(1,g10_r))]
def spec_l00Src_text_o62 (a1:List Bt) (a2:Int) (a3:Int) (a4:List Str):Option (List Bt×Int×Int×List Str×Str):=(spec_l00Src_pick_o30 a1 a2 a3 (((a4.length:Nat):Int))).bind fun r1=>if 0≤r1.2.2.2∧r1.2.2.2 < ((a4.length:Nat):Int) then (a4[(r1.2.2.2).toNat]?).bind fun x2=>some (r1.1,r1.2.1,r1.2.2.1,a4,x2) else none
@[simp] def g12_O:(List Bt×Int×Int×List Str×Str)→TV×List Blk:=fun r=>((.str r.2.2.2.2),[(.live 3 [[(.vs (rows r.1)),(.int .i64 r.2.1),(.int .u64 r.2.2.1)]]),(.live 1 (rows r.2.2.2.1))])
abbrev g12_T:=List Bt×Int×Int×List Str
def g12_E (a:g12_T):List TV:=[(.ptr 0 0 0),(.hs 1 0 a.2.2.2.length true)]
def g12_B (a:g12_T):List Blk:=[(.live 3 [[(.vs (rows a.1)),(.int .i64 a.2.1),(.int .u64 a.2.2.1)]]),(.live 1 (rows a.2.2.2))]
theorem g12_run (a1:List Bt) (a2:Int) (a3:Int) (a4:List Str) :callFn (X g12_S) g12_tf (g12_E (a1,a2,a3,a4)) (g12_B (a1,a2,a3,a4))=(spec_l00Src_text_o62 a1 a2 a3 a4).map g12_O:=by
  rw [callFn_eq]
  simp (maxSteps:=2000000) (maxDischargeDepth:=8) -implicitDefEqProofs [g12_tf,spec_l00Src_text_o62,g12_E,g12_B] <;> (try simp only [map_to_bind,some_elim,g12_O])
def g12_r:MRule:=RmO g12_E g12_B (fun a=>(spec_l00Src_text_o62 a.1 a.2.1 a.2.2.1 a.2.2.2).bind fun r=>if r.2.2.2.1.length=a.2.2.2.length then some (r.1,r.2.1,r.2.2.1,(fixLen a.2.2.2 r.2.2.2.1),r.2.2.2.2) else none) g12_O
theorem g12_ok0:MRuleOk Tryd.prog 72 2 (RmO g12_E g12_B (fun a=>spec_l00Src_text_o62 a.1 a.2.1 a.2.2.1 a.2.2.2) g12_O):=ok_rmo (S:=g12_S) (tf:=g12_tf) (SysOk.on trivial ⟨g10_ok,trivial⟩) (trE_ok (ks:=[]) Tryd.func72 (by kernel_rfl)) (by rfl) (fun _=>by simp [g12_B]) (fun _=>by simp) fun a=>g12_run a.1 a.2.1 a.2.2.1 a.2.2.2
theorem g12_ok:MRuleOk Tryd.prog 72 2 g12_r:=g12_ok0.weak fun a r hr=>by
  simp only [Option.bind_eq_some_iff] at hr
  obtain ⟨x,h1,h2⟩:=hr
  split at h2
  · rename_i hc
    simp only [Option.some.injEq] at h2
    rw [h1,← h2]
    simp [fixLen,hc]
  · cases h2
@[simp] theorem g12_app (y0 y1 y2)(y3:List Str){n1:Nat}(h1:n1=y3.length):g12_r [(.ptr 0 0 0),(.hs 1 0 n1 true)] [(.live 3 [[(.vs (rows y0)),(.int .i64 y1),(.int .u64 y2)]]),(.live 1 (rows y3))]=((spec_l00Src_text_o62 y0 y1 y2 y3).bind fun r=>if r.2.2.2.1.length=y3.length then some (r.1,r.2.1,r.2.2.1,(fixLen y3 r.2.2.2.1),r.2.2.2.2) else none).map g12_O:=by
  subst h1
  exact RmO_app (enc:=g12_E) (encB:=g12_B) (by intro a b h h2;simp [g12_E,g12_B,Prod.ext_iff] at h h2 ⊢;simp [h,h2]) (y0,y1,y2,y3)
/-! spec.DrawReadNumbers -/
def g13_tf:TFn:=⟨(sq [mk 2 (.c (.str []))] [0] (sq [mo 8 0,ca 9 66 [.t 8],mo 3 9] [3] (sq [mo 10 3,oo 11 (.callM 70 0 [0] [.t 10]),mo 4 11] [3,4] (sq [mo 12 3,mo 13 4,oo 14 (.callM 68 1 [0,1] [.t 12,.t 13]),oo 5 (.alloc [.nils,.nils]),⟨none,none,(.store 2 (.t 5) (.t 14))⟩] [3,5] (sq [ca 15 71 [.t 5],mo 6 15] [3,6] (.seq (sq [mo 16 3,oo 17 (.callM 67 0 [0] [.t 16,ki 6])] [3,6,17] (.block 0 (sq [bn 19 .eql (.t 17) (ki 0),mo 18 19] [3,6,17,18] (.cond (.t 18) (sq [mo 20 3,mo 21 6,oo 22 (.len true (.t 21)),oo 23 (.callM 67 0 [0] [.t 20,.t 22]),mo 7 23] [3,6,7] (.after (.drawF [(none,mo 24 6),(none,mo 25 7),(none,oo 26 (.sliceS (.t 24) none (some (.t 25)))),(none,mo 27 3),(none,mo 31 6),(none,mo 32 7),(none,oo 33 (.sliceS (.t 31) (some (.t 32)) none)),(some [24,25,26,27,31,32,33],oo 28 (.bslice [(.str [])] 7 [(0,(.c (.str [32]))),(1,(.c (.str [48]))),(2,(.c (.str [45]))),(3,(.c (.str [40]))),(4,(.c (.str [41]))),(5,(.c (.str [44]))),(6,(.c (.str [49])))])),(some [24,25,26,31,32,33],oo 29 (.callM 72 0 [0,5] [.t 27,.t 28])),(none,oo 30 (.bin .str .add (.t 26) (.t 29)))] [oo 34 (.bin .str .add (.t 30) (.t 33)),mo 6 34]) (kp [(6,0)] [] 0))) (sq [bn 36 .eql (.t 17) (ki 1),mo 35 36] [3,6,35] (.cond (.t 35) (.after (.ops [mo 37 3,oo 38 (.bslice [(.str [])] 12 [(0,(.c (.str []))),(1,(.c (.str [40,41]))),(2,(.c (.str [40,41,32,53]))),(3,(.c (.str [40,41,32,45,48]))),(4,(.c (.str [40,50,41,32,49]))),(5,(.c (.str [40,49,41,32,48,49]))),(6,(.c (.str [40,48,41]))),(7,(.c (.str [40,48,41,32]))),(8,(.c (.str [40,41,32,49,48,48,48,48,48,48,48,48,48,48,48,49]))),(9,(.c (.str [40,41,32,49,50,51,52,53,54,55,56,57,48,49,50,51,52,53,54,55]))),(10,(.c (.str [120,32,49]))),(11,(.c (.str [40,49,41,32,32,49])))]),oo 39 (.callM 72 0 [0,5] [.t 37,.t 38]),mo 6 39]) (kp [(6,0)] [] 0)) (.keep (kp [(6,0)] [] 0) .skip))))))) (.trim [6] (.seq (.ops [mo 40 6,mo 2 40]) (.keep (kp [(2,0)] [] 0) .ret))))))))),[.t 2]⟩
abbrev g13_S:=Sys.on [(66,g37_r),(71,g43_r)] [((70,0),(1,g11_r)),((68,1),(2,g7_r)),((67,0),(1,g10_r)),((72,0),(2,g12_r))]
def spec_DrawReadNumbers (a_code:List Bt):Option (Str):=(spec_l00From a_code).bind fun r1=>(spec_l05DrawDims_o9d r1.1 r1.2.1 r1.2.2).bind fun r2=>(spec_l25DrawNumbers_obb r2.1 r2.2.1 r2.2.2.1 r2.2.2.2).bind fun r3=>if r3.2.2.2.1.length=r2.2.2.2.length then (spec_l32Text (((fixLen r2.2.2.2 r3.2.2.2.1),r3.2.2.2.2))).bind fun r4=>(spec_l00Src_pick_o30 r3.1 r3.2.1 r3.2.2.1 6).bind fun r5=>if r5.2.2.2=0 then (spec_l00Src_pick_o30 r5.1 r5.2.1 r5.2.2.1 ((r4.length:Int))).bind fun r6=>(subL r4 none (some r6.2.2.2)).bind fun s7=>(subL r4 (some r6.2.2.2) none).bind fun s8=>if subL r4 none (some r6.2.2.2)=some s7∧subL r4 (some r6.2.2.2) none=some s8 then (spec_l00Src_text_o62 r6.1 r6.2.1 r6.2.2.1 ((lit [([32]:Str),([48]:Str),([45]:Str),([40]:Str),([41]:Str),([44]:Str),([49]:Str)]:List Str))).bind fun r9=>if r9.2.2.2.1.length=((lit [([32]:Str),([48]:Str),([45]:Str),([40]:Str),([41]:Str),([44]:Str),([49]:Str)]:List Str)).length then if subL r4 none (some r6.2.2.2)=some s7∧subL r4 (some r6.2.2.2) none=some s8 then if s7.length+r9.2.2.2.2.length≤9223372036854775807 then if ((s7++r9.2.2.2.2)).length+s8.length≤9223372036854775807 then some (((s7++r9.2.2.2.2)++s8)) else none else none else none else none else none else if r5.2.2.2=1 then (spec_l00Src_text_o62 r5.1 r5.2.1 r5.2.2.1 ((lit [([]:Str),([40,41]:Str),([40,41,32,53]:Str),([40,41,32,45,48]:Str),([40,50,41,32,49]:Str),([40,49,41,32,48,49]:Str),([40,48,41]:Str),([40,48,41,32]:Str),([40,41,32,49,48,48,48,48,48,48,48,48,48,48,48,49]:Str),([40,41,32,49,50,51,52,53,54,55,56,57,48,49,50,51,52,53,54,55]:Str),([120,32,49]:Str),([40,49,41,32,32,49]:Str)]:List Str))).bind fun r10=>if r10.2.2.2.1.length=((lit [([]:Str),([40,41]:Str),([40,41,32,53]:Str),([40,41,32,45,48]:Str),([40,50,41,32,49]:Str),([40,49,41,32,48,49]:Str),([40,48,41]:Str),([40,48,41,32]:Str),([40,41,32,49,48,48,48,48,48,48,48,48,48,48,48,49]:Str),([40,41,32,49,50,51,52,53,54,55,56,57,48,49,50,51,52,53,54,55]:Str),([120,32,49]:Str),([40,49,41,32,32,49]:Str)]:List Str)).length then some r10.2.2.2.2 else none else some r4 else none
@[simp] def g13_O:Str→TV×List Blk:=fun r=>((.str r),[])
def g13_E (a:List Bt):List TV:=[(.vs (rows a))]
theorem g13_run (a_code:List Bt) :callFn (X g13_S) g13_tf (g13_E a_code) []=(spec_DrawReadNumbers a_code).map g13_O:=by
  rw [callFn_eq]
  simp (maxSteps:=2000000) (maxDischargeDepth:=8) -implicitDefEqProofs [g13_tf,spec_DrawReadNumbers,g13_E,bslV_lit (α:=Str) (zs:=[(.str [])])] <;> (try simp only [map_to_bind,some_elim,g13_O])
def g13_r:Rule:=RlO g13_E (fun a=>spec_DrawReadNumbers a) g13_O
theorem g13_ok:RuleOk Tryd.prog 31 g13_r:=ok_rlo (S:=g13_S) (tf:=g13_tf) (SysOk.on ⟨g37_ok,g43_ok,trivial⟩ ⟨g11_ok,g7_ok,g10_ok,g12_ok,trivial⟩) (trE_ok (ks:=[[10,2000000,12,0,1,2,3,7,8,9,4,5,6,10,11,0,0,0,0,0,0,0,8,24,25,26,27,31,32,33,7,24,25,26,31,32,33,0]]) Tryd.func31 (by kernel_rfl)) fun a=>g13_run a
@[simp] theorem g13_app (y0):g13_r [(.vs (rows y0))]=(spec_DrawReadNumbers y0).map g13_O :=
  RlO_app (enc:=g13_E) (by intro a b h;simp [g13_E,Prod.ext_iff] at h ⊢;simp [h]) y0
/-! spec.l00In -/
def g47_tf:TFn:=⟨(sq [mk 6 (kb false)] [0,1,2] (.seq (.after (.ops [mo 7 0,mo 8 1,bn 9 .geq (.t 7) (.t 8),mo 10 9,⟨(some 11),(some (10,true)),(.mv (.t 0))⟩,⟨(some 12),(some (10,true)),(.mv (.t 2))⟩,⟨(some 13),(some (10,true)),(.bin .num .leq (.t 11) (.t 12))⟩,pk 14 (.t 10) (.t 13) (kb false),mo 6 14]) (kp [(6,0)] [] 0)) (.keep (kp [(6,0)] [] 0) .ret))),[.t 6]⟩
abbrev g47_S:=Sys.on [] []
def spec_l00In (a_n:Int) (a_low:Int) (a_high:Int):Option (Bool):=if a_n ≥ a_low then some ((decide (a_n≤a_high))) else some false
@[simp] def g47_O:Bool→TV×List Blk:=fun r=>((.bool r),[])
def g47_E (a:Int×Int×Int):List TV:=[(.int .i64 a.1),(.int .i64 a.2.1),(.int .i64 a.2.2)]
theorem g47_run (a_n:Int) (a_low:Int) (a_high:Int) :callFn (X g47_S) g47_tf (g47_E (a_n,a_low,a_high)) []=(spec_l00In a_n a_low a_high).map g47_O:=by
  rw [callFn_eq]
  simp (maxSteps:=2000000) (maxDischargeDepth:=8) -implicitDefEqProofs [g47_tf,spec_l00In,g47_E] <;> (try simp only [map_to_bind,some_elim,g47_O])
def g47_r:Rule:=RlO g47_E (fun a=>spec_l00In a.1 a.2.1 a.2.2) g47_O
theorem g47_ok:RuleOk Tryd.prog 115 g47_r:=ok_rlo (S:=g47_S) (tf:=g47_tf) (SysOk.on trivial trivial) (trE_ok (ks:=[]) Tryd.func115 (by kernel_rfl)) fun a=>g47_run a.1 a.2.1 a.2.2
@[simp] theorem g47_app (y0 y1 y2):g47_r [(.int .i64 y0),(.int .i64 y1),(.int .i64 y2)]=(spec_l00In y0 y1 y2).map g47_O :=
  RlO_app (enc:=g47_E) (by intro a b h;simp [g47_E,Prod.ext_iff] at h ⊢;simp [h]) (y0,y1,y2)
/-! spec.l05Dims -/
def g44l1_cb:TC:=(.seq (sq [mo 8 4,mo 9 0,le 10 9,bn 11 .lss (.t 8) (.t 10)] [0,3,4,11] (.cond (.t 11) .skip (.keep (kp [(3,0)] [] 0) (.exit 0)))) (.trim [0,3,4] (.seq (.block 1 (.seq (sq [mo 14 0,mo 15 4,ia 16 1 14 15,ld 17 16,ca 18 115 [.t 17,ki 0,ki 40],nt 19 18] [0,3,4,19] (.cond (.t 19) (.seq (.ops [mk 2 (kb false)]) (.keep (kp [(2,0)] [] 0) .ret)) .skip)) (.trim [0,3,4] (.ops [mo 20 3,mo 21 0,mo 22 4,ia 23 1 21 22,ld 24 23,bn 25 .mul (.t 20) (.t 24),mo 3 25])))) (.trim [0,3,4] (.after (.ops [mo 12 4,bn 13 .add (.t 12) (ki 1),mo 4 13]) (kp [(0,0),(3,0),(4,0)] [] 0))))))
def g44l1_c:TC:=.loop [0,3,4] g44l1_cb
def g44_tf:TFn:=⟨(sq [mk 2 (kb false)] [0] (.seq (sq [mo 5 0,le 6 5,bn 7 .gtr (.t 6) (ki 3)] [0,7] (.cond (.t 7) (.seq (.ops [mk 2 (kb false)]) (.keep (kp [(2,0)] [] 0) .ret)) .skip)) (.trim [0] (sq [mk 3 (ki 1)] [0,3] (.seq (sq [mk 4 (ki 0)] [0,3,4] (.block 0 (.keep (kp [(0,0),(3,0),(4,0)] [] 0) g44l1_c))) (.trim [3] (.seq (.ops [mo 26 3,bn 27 .leq (.t 26) (ki 600),mo 2 27]) (.keep (kp [(2,0)] [] 0) .ret)))))))),[.t 2]⟩
abbrev g44_S:=Sys.on [(115,g47_r)] []
@[reducible,simp] def g44l1_F:((Int) ⊕ (Bool))→Out:=(Sum.elim (fun t=>(.ext 0,[(3,(.int .i64 t))],[])) (fun t=>(.ret,[(2,(.bool t))],[])))
def spec_l05Dims_l1_b (v1:List Int) (v2:Int) (v3:Int):Option ((Int×Int) ⊕ ((Int) ⊕ (Bool))):=if v3 < (v1.length:Int) then if 0≤v3 then (v1[(v3).toNat]?).bind fun x4=>(spec_l00In x4 0 40).bind fun r5=>if ¬(r5=true) then some (.inr (.inr false)) else if 0≤v3 then (v1[(v3).toNat]?).bind fun x6=>some (.inl ((IntKind.i64.wrap (v2 * x6)),(IntKind.i64.wrap (v3+1)))) else none else none else some (.inr (.inl v2))
theorem g44l1_b_eq  (v1:List Int) (v2:Int) (v3:Int):X g44_S g44l1_cb (keepEnv [0,3,4] [(0,(.vs (rows v1))),(3,(.int .i64 v2)),(4,(.int .i64 v3))]) []=(spec_l05Dims_l1_b v1 v2 v3).map (Sum.elim (fun s=>(TX.nrm,[(0,(.vs (rows v1))),(3,(.int .i64 s.1)),(4,(.int .i64 s.2))],[])) g44l1_F):=by
  simp (maxSteps:=2000000) (maxDischargeDepth:=8) -implicitDefEqProofs [g44l1_cb,spec_l05Dims_l1_b] <;> (try simp only [map_to_bind,some_elim,g44l1_F])
def spec_l05Dims_l1 (v1:List Int) (s:Int×Int):Option ((Int) ⊕ (Bool)):=loopO (fun s=>spec_l05Dims_l1_b v1 s.1 s.2) s
@[simp] theorem g44l1_eq (y0 y1 y2):X g44_S g44l1_c [(0,(.vs (rows y0))),(3,(.int .i64 y1)),(4,(.int .i64 y2))] []=(spec_l05Dims_l1 y0 (y1,y2)).map g44l1_F:=by
  exact loop_X _ _ _ _ (by intro r;first | (simp;done) | (rcases r with r | r <;> simp;done) | (rcases r with r | r | r <;> simp;done) | (rcases r with r | r | r | r <;> simp)) (fun s=>g44l1_b_eq  y0 s.1 s.2) (y1,y2)
def spec_l05Dims (a_dims:List Int):Option (Bool):=if (a_dims.length:Int) > 3 then some false else (spec_l05Dims_l1 a_dims ((1,0))).bind fun r7=>Sum.elim (fun u8=>some ((decide (u8≤600)))) (fun u9=>some u9) r7
@[simp] def g44_O:Bool→TV×List Blk:=fun r=>((.bool r),[])
def g44_E (a:List Int):List TV:=[(.vs (rows a))]
theorem g44_run (a_dims:List Int) :callFn (X g44_S) g44_tf (g44_E a_dims) []=(spec_l05Dims a_dims).map g44_O:=by
  rw [callFn_eq]
  simp (maxSteps:=2000000) (maxDischargeDepth:=8) -implicitDefEqProofs [g44_tf,spec_l05Dims,g44_E] <;> (try simp only [map_to_bind,some_elim,g44_O])
def g44_r:Rule:=RlO g44_E (fun a=>spec_l05Dims a) g44_O
theorem g44_ok:RuleOk Tryd.prog 113 g44_r:=ok_rlo (S:=g44_S) (tf:=g44_tf) (SysOk.on ⟨g47_ok,trivial⟩ trivial) (trE_ok (ks:=[[0,3,4]]) Tryd.func113 (by kernel_rfl)) fun a=>g44_run a
@[simp] theorem g44_app (y0):g44_r [(.vs (rows y0))]=(spec_l05Dims y0).map g44_O :=
  RlO_app (enc:=g44_E) (by intro a b h;simp [g44_E,Prod.ext_iff] at h ⊢;simp [h]) y0
/-! spec.l25Fits -/
def g45_tf:TFn:=⟨(sq [mk 2 (kb false)] [0] (.seq (.ops [mo 3 0,ca 4 115 [.t 3,(ki (-1000000000000)),ki 1000000000000],mo 2 4]) (.keep (kp [(2,0)] [] 0) .ret))),[.t 2]⟩
abbrev g45_S:=Sys.on [(115,g47_r)] []
def spec_l25Fits (a_n:Int):Option (Bool):=(spec_l00In a_n ((-1000000000000)) 1000000000000).bind fun r1=>some r1
@[simp] def g45_O:Bool→TV×List Blk:=fun r=>((.bool r),[])
def g45_E (a:Int):List TV:=[(.int .i64 a)]
theorem g45_run (a_n:Int) :callFn (X g45_S) g45_tf (g45_E a_n) []=(spec_l25Fits a_n).map g45_O:=by
  rw [callFn_eq]
  simp (maxSteps:=2000000) (maxDischargeDepth:=8) -implicitDefEqProofs [g45_tf,spec_l25Fits,g45_E] <;> (try simp only [map_to_bind,some_elim,g45_O])
def g45_r:Rule:=RlO g45_E (fun a=>spec_l25Fits a) g45_O
theorem g45_ok:RuleOk Tryd.prog 114 g45_r:=ok_rlo (S:=g45_S) (tf:=g45_tf) (SysOk.on ⟨g47_ok,trivial⟩ trivial) (trE_ok (ks:=[]) Tryd.func114 (by kernel_rfl)) fun a=>g45_run a
@[simp] theorem g45_app (y0):g45_r [(.int .i64 y0)]=(spec_l25Fits y0).map g45_O :=
  RlO_app (enc:=g45_E) (by intro a b h;simp [g45_E,Prod.ext_iff] at h ⊢;simp [h]) y0
/-! spec.l25Ok -/
def g48l1_cb:TC:=(.seq (sq [mo 23 3,mo 24 0,nk 25 24,fa 26 1 25,ld 27 26,le 28 27,bn 29 .lss (.t 23) (.t 28)] [0,3,29] (.cond (.t 29) .skip (.keep (kp [] [] 0) (.exit 0)))) (.trim [0,3] (.seq (.block 1 (sq [mo 32 0,nk 33 32,fa 34 1 33,ld 35 34,mo 36 3,ia 37 1 35 36,ld 38 37,ca 39 114 [.t 38],nt 40 39] [0,3,40] (.cond (.t 40) (.seq (.ops [mk 2 (kb false)]) (.keep (kp [(2,0)] [] 0) .ret)) .skip))) (.trim [0,3] (.after (.ops [mo 30 3,bn 31 .add (.t 30) (ki 1),mo 3 31]) (kp [(0,0),(3,0)] [] 0))))))
def g48l1_c:TC:=.loop [0,3] g48l1_cb
def g48_tf:TFn:=⟨(sq [mk 2 (kb false)] [0] (.seq (.seq (.draw [([],mo 4 0),([0],nk 5 4),([0,1],fa 6 0 5),([0,1,2],ld 7 6),([0,1,2,3],ca 8 113 [.t 7]),([0,1,2,3,4],nt 9 8),([0,1,2,3,4,5],mo 10 9),([0,1,2,3,4,5,6],⟨(some 11),(some (10,false)),(.mv (.t 0))⟩),([0,1,2,3,4,5,6,7],⟨(some 12),(some (10,false)),(.nilchk (.t 11))⟩),([0,1,2,3,4,5,6,7,8],⟨(some 13),(some (10,false)),(.faddr 1 (.t 12))⟩),([0,1,2,3,4,5,6,7,8,9],⟨(some 14),(some (10,false)),(.load none (.t 13))⟩),([0,1,2,3,4,5,6,7,8,9,10],⟨(some 15),(some (10,false)),(.len false (.t 14))⟩),([0,1,2,3,4,5,6],⟨(some 16),(some (10,false)),(.mv (.t 0))⟩),([0,1,2,3,4,5,6,12],⟨(some 17),(some (10,false)),(.nilchk (.t 16))⟩),([0,1,2,3,4,5,6,12,13],⟨(some 18),(some (10,false)),(.faddr 0 (.t 17))⟩),([0,1,2,3,4,5,6,12,13,14],⟨(some 19),(some (10,false)),(.load none (.t 18))⟩),([0,1,2,3,4,5,6,12,13,14,15],⟨(some 20),(some (10,false)),(.call 110 [.t 19])⟩)] [⟨(some 21),(some (10,false)),(.bin .num .neq (.t 15) (.t 20))⟩,pk 22 (.t 10) (kb true) (.t 21)]) (.trim [0,22] (.cond (.t 22) (.seq (.ops [mk 2 (kb false)]) (.keep (kp [(2,0)] [] 0) .ret)) .skip))) (.trim [0] (.seq (sq [mk 3 (ki 0)] [0,3] (.block 0 (.keep (kp [(0,0),(3,0)] [] 0) g48l1_c))) (.trim [] (.seq (.ops [mk 2 (kb true)]) (.keep (kp [(2,0)] [] 0) .ret))))))),[.t 2]⟩
abbrev g48_S:=Sys.on [(113,g44_r),(110,g33_r),(114,g45_r)] []
@[reducible,simp] def g48l1_F:((Unit) ⊕ (Bool))→Out:=(Sum.elim (fun t=>(.ext 0,[],[])) (fun t=>(.ret,[(2,(.bool t))],[])))
def spec_l25Ok_l1_b (v3:List Int×List Int) (v4:Int):Option ((Int) ⊕ ((Unit) ⊕ (Bool))):=if v4 < (v3.2.length:Int) then if 0≤v4 then (v3.2[(v4).toNat]?).bind fun x5=>(spec_l25Fits x5).bind fun r6=>if ¬(r6=true) then some (.inr (.inr false)) else some (.inl ((IntKind.i64.wrap (v4+1)))) else none else some (.inr (.inl ()))
theorem g48l1_b_eq (q0:List TV) (v3:List Int×List Int) (v4:Int):X g48_S g48l1_cb (keepEnv [0,3] [(0,(.vp ((.vs (rows v3.1))::(.vs (rows v3.2))::q0))),(3,(.int .i64 v4))]) []=(spec_l25Ok_l1_b v3 v4).map (Sum.elim (fun s=>(TX.nrm,[(0,(.vp ((.vs (rows v3.1))::(.vs (rows v3.2))::q0))),(3,(.int .i64 s))],[])) g48l1_F):=by
  simp (maxSteps:=2000000) (maxDischargeDepth:=8) -implicitDefEqProofs [g48l1_cb,spec_l25Ok_l1_b] <;> (try simp only [map_to_bind,some_elim,g48l1_F])
def spec_l25Ok_l1 (v3:List Int×List Int) (s:Int):Option ((Unit) ⊕ (Bool)):=loopO (fun s=>spec_l25Ok_l1_b v3 s) s
@[simp] theorem g48l1_eq (q0:List TV)(y0 y1 y2):X g48_S g48l1_c [(0,(.vp ((.vs (rows y0))::(.vs (rows y1))::q0))),(3,(.int .i64 y2))] []=(spec_l25Ok_l1 ((y0,y1)) y2).map g48l1_F:=by
  exact loop_X _ _ _ _ (by intro r;first | (simp;done) | (rcases r with r | r <;> simp;done) | (rcases r with r | r | r <;> simp;done) | (rcases r with r | r | r | r <;> simp)) (fun s=>g48l1_b_eq q0 ((y0,y1)) s) y2
def spec_l25Ok (a_n:List Int×List Int):Option (Bool):=(spec_l05Dims a_n.1).bind fun r1=>if ¬(r1=true) then some false else (spec_l05Count a_n.1).bind fun r2=>if ¬((a_n.2.length:Int)=r2) then some false else (spec_l25Ok_l1 a_n 0).bind fun r7=>Sum.elim (fun u8=>some true) (fun u9=>some u9) r7
@[simp] def g48_O:Bool→TV×List Blk:=fun r=>((.bool r),[])
def g48_E (a:(List Int×List Int)×List TV):List TV:=[(.vp ((.vs (rows a.1.1))::(.vs (rows a.1.2))::a.2))]
theorem g48_run (a_n:List Int×List Int) (q0:List TV):callFn (X g48_S) g48_tf (g48_E (a_n,q0)) []=(spec_l25Ok a_n).map g48_O:=by
  rw [callFn_eq]
  simp (maxSteps:=2000000) (maxDischargeDepth:=8) -implicitDefEqProofs [g48_tf,spec_l25Ok,g48_E] <;> (try simp only [map_to_bind,some_elim,g48_O])
def g48_r:Rule:=RlO g48_E (fun a=>spec_l25Ok a.1) g48_O
theorem g48_ok:RuleOk Tryd.prog 73 g48_r:=ok_rlo (S:=g48_S) (tf:=g48_tf) (SysOk.on ⟨g44_ok,g33_ok,g45_ok,trivial⟩ trivial) (trE_ok (ks:=[[17],[0,3]]) Tryd.func73 (by kernel_rfl)) fun a=>g48_run a.1 a.2
@[simp] theorem g48_app (y0 y1)(q0:List TV):g48_r [(.vp ((.vs (rows y0))::(.vs (rows y1))::q0))]=(spec_l25Ok ((y0,y1))).map g48_O :=
  RlO_app (enc:=g48_E) (by intro a b h;simp [g48_E,Prod.ext_iff] at h ⊢;simp [h]) ((y0,y1),q0)
/-! spec.ValidNumbers -/
def g22_tf:TFn:=⟨(sq [bx 1 0,mk 2 (kb false)] [1] (.seq (.ops [ca 3 73 [.t 1],mo 2 3]) (.keep (kp [(2,0)] [] 0) .ret))),[.t 2]⟩
abbrev g22_S:=Sys.on [(73,g48_r)] []
def spec_ValidNumbers (a_n:List Int×List Int):Option (Bool):=(spec_l25Ok a_n).bind fun r1=>some r1
@[simp] def g22_O:Bool→TV×List Blk:=fun r=>((.bool r),[])
def g22_E (a:(List Int×List Int)):List TV:=[(.agg [(.vs (rows a.1)),(.vs (rows a.2))])]
theorem g22_run (a_n:List Int×List Int) :callFn (X g22_S) g22_tf (g22_E a_n) []=(spec_ValidNumbers a_n).map g22_O:=by
  rw [callFn_eq]
  simp (maxSteps:=2000000) (maxDischargeDepth:=8) -implicitDefEqProofs [g22_tf,spec_ValidNumbers,g22_E] <;> (try simp only [map_to_bind,some_elim,g22_O])
def g22_r:Rule:=RlO g22_E (fun a=>spec_ValidNumbers a) g22_O
theorem g22_ok:RuleOk Tryd.prog 32 g22_r:=ok_rlo (S:=g22_S) (tf:=g22_tf) (SysOk.on ⟨g48_ok,trivial⟩ trivial) (trE_ok (ks:=[]) Tryd.func32 (by kernel_rfl)) fun a=>g22_run a
@[simp] theorem g22_app (y0 y1):g22_r [(.agg [(.vs (rows y0)),(.vs (rows y1))])]=(spec_ValidNumbers ((y0,y1))).map g22_O :=
  RlO_app (enc:=g22_E) (by intro a b h;simp [g22_E,Prod.ext_iff] at h ⊢;simp [h]) ((y0,y1))
/-! laws.FnNumbersText -/
def g15_tf:TFn:=⟨(sq [mk 4 (kb false)] [0,1] (.seq (sq [mo 12 0,le 13 12,bn 14 .gtr (.t 13) (ki 1048576),mo 15 14,⟨(some 16),(some (15,false)),(.mv (.t 1))⟩,⟨(some 17),(some (15,false)),(.len false (.t 16))⟩,⟨(some 18),(some (15,false)),(.bin .num .gtr (.t 17) (ki 1048576))⟩,pk 19 (.t 15) (kb true) (.t 18)] [0,1,19] (.cond (.t 19) (.seq (.ops [mk 4 (kb true)]) (.keep (kp [(4,0)] [] 0) .ret)) .skip)) (.trim [0,1] (sq [mo 21 0,ca 22 28 [.t 21],mo 20 22,oo 23 (.ext (.t 20) 0),oo 24 (.ext (.t 20) 1),oo 5 (.alloc [.nils,.nils]),oo 6 (.alloc [.nils,.nils]),⟨none,none,(.store 2 (.t 5) (.t 23))⟩,⟨none,none,(.store 2 (.t 6) (.t 24))⟩] [1,5] (sq [ln 26 2 5,ca 27 29 [.t 26],ca 28 24 [.t 27],mo 25 28,oo 29 (.ext (.t 25) 0),oo 30 (.ext (.t 25) 1),oo 7 (.alloc [.nils,.nils]),⟨none,none,(.store 2 (.t 7) (.t 29))⟩,mo 8 30] [1,5,7,8] (.seq (sq [mo 31 8,nt 32 31,mo 33 32,⟨(some 34),(some (33,false)),(.load (some 2) (.t 7))⟩,⟨(some 35),(some (33,false)),(.load (some 2) (.t 5))⟩,⟨(some 36),(some (33,false)),(.call 30 [.t 34,.t 35])⟩,⟨(some 37),(some (33,false)),(.un .not (.t 36))⟩,pk 38 (.t 33) (kb true) (.t 37)] [1,38] (.cond (.t 38) (.seq (.ops [mk 4 (kb false)]) (.keep (kp [(4,0)] [] 0) .ret)) .skip)) (.trim [1] (sq [mo 39 1,ca 40 31 [.t 39],mo 9 40] [9] (sq [mo 42 9,ca 43 24 [.t 42],mo 41 43,oo 44 (.ext (.t 41) 0),oo 45 (.ext (.t 41) 1),oo 10 (.alloc [.nils,.nils]),⟨none,none,(.store 2 (.t 10) (.t 44))⟩,mo 11 45] [9,10,11] (.seq (.after (.ops [mo 46 11,nt 47 46,mo 48 47,⟨(some 49),(some (48,false)),(.load (some 2) (.t 10))⟩,⟨(some 50),(some (48,false)),(.call 29 [.t 49])⟩,⟨(some 51),(some (48,false)),(.mv (.t 9))⟩,⟨(some 52),(some (48,false)),(.bin .str .eql (.t 50) (.t 51))⟩,⟨(some 53),(some (48,false)),(.mv (.t 52))⟩,⟨(some 54),(some (53,true)),(.load (some 2) (.t 10))⟩,⟨(some 55),(some (53,true)),(.call 32 [.t 54])⟩,⟨(some 56),(some (48,false)),(.pick (.t 53) (.t 55) (kb false))⟩,pk 57 (.t 48) (kb true) (.t 56),mo 4 57]) (kp [(4,0)] [] 0)) (.keep (kp [(4,0)] [] 0) .ret))))))))))),[.t 4]⟩
abbrev g15_S:=Sys.on [(28,g28_r),(29,g23_r),(24,g25_r),(30,g26_r),(31,g13_r),(32,g22_r)] []
def laws_FnNumbersText (a_code:List Bt) (a_more:List Bt):Option (Bool):=if (a_code.length:Int) > 1048576 then some true else if (a_more.length:Int) > 1048576 then some true else (spec_E8Numbers a_code).bind fun r1=>(impl_NumbersText r1.1).bind fun r2=>(impl_ReadNumbers r2).bind fun r3=>if ¬(r3.2.2=true) then some false else (spec_SameNumbers ((r3.1,r3.2.1)) r1.1).bind fun r4=>if ¬(r4=true) then some false else (spec_DrawReadNumbers a_more).bind fun r5=>(impl_ReadNumbers r5).bind fun r6=>if ¬(r6.2.2=true) then some true else (impl_NumbersText ((r6.1,r6.2.1))).bind fun r7=>if r7=r5 then (spec_ValidNumbers ((r6.1,r6.2.1))).bind fun r8=>some r8 else some false
@[simp] def g15_O:Bool→TV×List Blk:=fun r=>((.bool r),[])
def g15_E (a:List Bt×List Bt):List TV:=[(.vs (rows a.1)),(.vs (rows a.2))]
theorem g15_run (a_code:List Bt) (a_more:List Bt) :callFn (X g15_S) g15_tf (g15_E (a_code,a_more)) []=(laws_FnNumbersText a_code a_more).map g15_O:=by
  rw [callFn_eq]
  simp (maxSteps:=2000000) (maxDischargeDepth:=8) -implicitDefEqProofs [g15_tf,laws_FnNumbersText,g15_E] <;> (try simp only [map_to_bind,some_elim,g15_O])
def laws_FnNumbersText_r:Rule:=RlO g15_E (fun a=>laws_FnNumbersText a.1 a.2) g15_O
theorem laws_FnNumbersText_ok:RuleOk Tryd.prog 7 laws_FnNumbersText_r:=ok_rlo (S:=g15_S) (tf:=g15_tf) (SysOk.on ⟨g28_ok,g23_ok,g25_ok,g26_ok,g13_ok,g22_ok,trivial⟩ trivial) (trE_ok (ks:=[]) Tryd.func7 (by kernel_rfl)) fun a=>g15_run a.1 a.2
@[simp] theorem laws_FnNumbersText_app (y0 y1):laws_FnNumbersText_r [(.vs (rows y0)),(.vs (rows y1))]=(laws_FnNumbersText y0 y1).map g15_O :=
  RlO_app (enc:=g15_E) (by intro a b h;simp [g15_E,Prod.ext_iff] at h ⊢;simp [h]) (y0,y1)
end
end Go.Proofs.TM
