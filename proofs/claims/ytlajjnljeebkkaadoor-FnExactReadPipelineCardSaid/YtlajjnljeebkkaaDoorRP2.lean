/- Functions of the program, as functions of their data: written by program. -/
import Derived.Test.YtlajjnljeebkkaaDoorRP1
namespace Go.Proofs.TM
open Go Go.Proofs
set_option linter.unusedVariables false
set_option linter.unusedSimpArgs false
set_option maxHeartbeats 1000000
attribute [-simp] Option.map_bind strV_some
attribute [simp] guardOn_bool sA_bslice Function.comp_def
noncomputable section
/-! slices.ContainsFunc[[]impl.Filter,impl.Filter] -/
def g0_tf:TFn:=⟨(sq [mk 4 (kb false)] [0,1] (.seq (.ops [mo 5 0,mo 6 1,ca 7 134 [.t 5,.t 6],bn 8 .geq (.t 7) (ki 0),mo 4 8]) (.keep (kp [(4,0)] [] 0) .ret))),[.t 4]⟩
abbrev g0_S:=Sys.on [(134,g1_r)] []
def slices_ContainsFunc_impl_Filter_impl_Filter__ValidPipeline_c1 (a_s:List (Int×Int×Bool)):Option (Bool):=(slices_IndexFunc_impl_Filter_impl_Filter__ValidPipeline_c1 a_s).bind fun r1=>some ((decide (r1 ≥ 0)))
@[simp] def g0_O:Bool→TV×List Blk:=fun r=>((.bool r),[])
def g0_E (a:(List (Int×Int×Bool))):List TV:=[(.vs (rows a)),(.fn 99 [] [])]
theorem g0_run (a_s:List (Int×Int×Bool)) :callFn (X g0_S) g0_tf (g0_E a_s) []=(slices_ContainsFunc_impl_Filter_impl_Filter__ValidPipeline_c1 a_s).map g0_O:=by
  rw [callFn_eq]
  simp (maxSteps:=2000000) (maxDischargeDepth:=8) -implicitDefEqProofs [g0_tf,slices_ContainsFunc_impl_Filter_impl_Filter__ValidPipeline_c1,g0_E] <;> (try simp only [map_to_bind,some_elim,g0_O])
def g0_r:Rule:=RlO g0_E (fun a=>slices_ContainsFunc_impl_Filter_impl_Filter__ValidPipeline_c1 a) g0_O
theorem g0_ok:RuleOk Tryd.prog 98 g0_r:=ok_rlo (S:=g0_S) (tf:=g0_tf) (SysOk.on ⟨g1_ok,trivial⟩ trivial) (trE_ok (ks:=[]) Tryd.func98 (by kernel_rfl)) fun a=>g0_run a
@[simp] theorem g0_app (y0):g0_r [(.vs (rows y0)),(.fn 99 [] [])]=(slices_ContainsFunc_impl_Filter_impl_Filter__ValidPipeline_c1 y0).map g0_O :=
  RlO_app (enc:=g0_E) (by intro a b h;simp [g0_E,Prod.ext_iff] at h ⊢;simp [h]) y0
/-! impl.ValidPipeline -/
def g17_tf:TFn:=⟨(sq [mk 2 (kb false)] [0] (.seq (.after (.ops [mo 3 0,le 4 3,bn 5 .leq (.t 4) (ki 4),mo 6 5,⟨(some 7),(some (6,true)),(.mv (.t 0))⟩,⟨(some 8),(some (6,true)),(.call 98 [.t 7,(.c (.fn 99 [] []))])⟩,⟨(some 9),(some (6,true)),(.un .not (.t 8))⟩,pk 10 (.t 6) (.t 9) (kb false),mo 2 10]) (kp [(2,0)] [] 0)) (.keep (kp [(2,0)] [] 0) .ret))),[.t 2]⟩
abbrev g17_S:=Sys.on [(98,g0_r)] []
def impl_ValidPipeline (a_list:List (Int×Int×Bool)):Option (Bool):=if (a_list.length:Int)≤4 then (slices_ContainsFunc_impl_Filter_impl_Filter__ValidPipeline_c1 a_list).bind fun r1=>some ((!r1)) else some false
@[simp] def g17_O:Bool→TV×List Blk:=fun r=>((.bool r),[])
def g17_E (a:(List (Int×Int×Bool))):List TV:=[(.vs (rows a))]
theorem g17_run (a_list:List (Int×Int×Bool)) :callFn (X g17_S) g17_tf (g17_E a_list) []=(impl_ValidPipeline a_list).map g17_O:=by
  rw [callFn_eq]
  simp (maxSteps:=2000000) (maxDischargeDepth:=8) -implicitDefEqProofs [g17_tf,impl_ValidPipeline,g17_E] <;> (try simp only [map_to_bind,some_elim,g17_O])
def g17_r:Rule:=RlO g17_E (fun a=>impl_ValidPipeline a) g17_O
theorem g17_ok:RuleOk Tryd.prog 55 g17_r:=ok_rlo (S:=g17_S) (tf:=g17_tf) (SysOk.on ⟨g0_ok,trivial⟩ trivial) (trE_ok (ks:=[]) Tryd.func55 (by kernel_rfl)) fun a=>g17_run a
@[simp] theorem g17_app (y0):g17_r [(.vs (rows y0))]=(impl_ValidPipeline y0).map g17_O :=
  RlO_app (enc:=g17_E) (by intro a b h;simp [g17_E,Prod.ext_iff] at h ⊢;simp [h]) y0
/-! strconv.FormatInt -/
noncomputable def strconv_FormatInt (n:Int):Option Str:=fmtS n
noncomputable def strconv_FormatInt_r:Rule:=fmt_r
@[simp] theorem strconv_FormatInt_app (y0):strconv_FormatInt_r [.int .i64 y0,.int .i64 10]=(strconv_FormatInt y0).map (fun r=>(.str r,[])):=fmtS_app y0
/-! impl.decimal -/
def g37_tf:TFn:=⟨(sq [mk 2 (.c (.str []))] [0] (.seq (.ops [mo 3 0,ca 4 130 [.t 3,ki 10],mo 2 4]) (.keep (kp [(2,0)] [] 0) .ret))),[.t 2]⟩
abbrev g37_S:=Sys.on [(130,strconv_FormatInt_r)] []
def impl_decimal (a_n:Int):Option (Str):=(strconv_FormatInt a_n).bind fun r1=>some r1
@[simp] def g37_O:Str→TV×List Blk:=fun r=>((.str r),[])
def g37_E (a:Int):List TV:=[(.int .i64 a)]
theorem g37_run (a_n:Int) :callFn (X g37_S) g37_tf (g37_E a_n) []=(impl_decimal a_n).map g37_O:=by
  rw [callFn_eq]
  simp (maxSteps:=2000000) (maxDischargeDepth:=8) -implicitDefEqProofs [g37_tf,impl_decimal,g37_E] <;> (try simp only [map_to_bind,some_elim,g37_O])
def g37_r:Rule:=RlO g37_E (fun a=>impl_decimal a) g37_O
theorem g37_ok:RuleOk Tryd.prog 92 g37_r:=ok_rlo (S:=g37_S) (tf:=g37_tf) (SysOk.on ⟨strconv_FormatInt_ok,trivial⟩ trivial) (trE_ok (ks:=[]) Tryd.func92 (by kernel_rfl)) fun a=>g37_run a
@[simp] theorem g37_app (y0):g37_r [(.int .i64 y0)]=(impl_decimal y0).map g37_O :=
  RlO_app (enc:=g37_E) (by intro a b h;simp [g37_E,Prod.ext_iff] at h ⊢;simp [h]) y0
/-! (impl.Filter).text -/
def g26p1_c:TC:=(.after (.ops [mo 16 3,fa 17 1 1,ld 18 17,ca 19 92 [.t 18],oo 20 (.bin .str .add (.c (.str [40])) (.t 19)),oo 21 (.bin .str .add (.t 20) (.c (.str [41]))),oo 22 (.bin .str .add (.t 16) (.t 21)),mo 3 22]) (kp [(1,0),(3,0)] [(0,0)] 0))
def g26p2_c:TC:=(.seq (sq [fa 23 2 1,ld 24 23] [3,24] (.cond (.t 24) (.after (.ops [mo 25 3,oo 26 (.bin .str .add (.t 25) (.c (.str [63]))),mo 3 26]) (kp [(3,0)] [] 0)) (.keep (kp [(3,0)] [] 0) .skip))) (.trim [3] (.seq (.ops [mo 27 3,mo 2 27]) (.keep (kp [(2,0)] [] 0) .ret))))
def g26_tf:TFn:=⟨(sq [bx 1 0,mk 2 (.c (.str []))] [1] (sq [oo 4 (.build [(.str []),(.str []),(.str []),(.str []),(.str []),(.str [])] [(1,1,(.c (.str [115,104,117,102,102,108,101]))),(2,1,(.c (.str [100,101,108,116,97]))),(3,1,(.c (.str [114,117,110]))),(4,1,(.c (.str [108,122]))),(5,1,(.c (.str [115,117,109])))]),fa 5 0 1,ld 6 5,oo 7 (.indexA 6 (.t 4) (.t 6)),mo 3 7] [1,3] (.seq (sq [fa 8 0 1,ld 9 8,bn 10 .eql (.t 9) (ki 1),mo 11 10,⟨(some 12),(some (11,false)),(.faddr 0 (.t 1))⟩,⟨(some 13),(some (11,false)),(.load none (.t 12))⟩,⟨(some 14),(some (11,false)),(.bin .num .eql (.t 13) (ki 2))⟩,pk 15 (.t 11) (kb true) (.t 14)] [1,3,15] (.cond (.t 15) (.keep (kp [(1,0),(3,0)] [(0,0)] 0) g26p1_c) (.keep (kp [(1,0),(3,0)] [(0,0)] 0) .skip))) (.trim [1,3] g26p2_c)))),[.t 2]⟩
abbrev g26_S:=Sys.on [(92,g37_r)] []
@[reducible,simp] def g26p1_F:((Int×Int×Bool)×Str)→Out:=(fun t=>(.nrm,[(1,(.ptr 0 0 0)),(3,(.str t.2))],[(.live 3 [[(.int .i64 t.1.1),(.int .i64 t.1.2.1),(.bool t.1.2.2)]])]))
def impl_Filter_text_p1 (v2:Int×Int×Bool) (v3:Str):Option ((Int×Int×Bool)×Str):=(impl_decimal v2.2.1).bind fun r4=>if (([40]:Str)).length+r4.length≤9223372036854775807 then if ((([40]:Str)++r4)).length+(([41]:Str)).length≤9223372036854775807 then if v3.length+(((([40]:Str)++r4)++([41]:Str))).length≤9223372036854775807 then some ((v2,(v3++((([40]:Str)++r4)++([41]:Str))))) else none else none else none
@[simp] theorem g26p1_eq (y0 y1 y2 y3):X g26_S g26p1_c [(1,(.ptr 0 0 0)),(3,(.str y3))] [(.live 3 [[(.int .i64 y0),(.int .i64 y1),(.bool y2)]])]=(impl_Filter_text_p1 ((y0,y1,y2)) y3).map g26p1_F:=by
  simp (maxSteps:=2000000) (maxDischargeDepth:=8) -implicitDefEqProofs [g26p1_c,impl_Filter_text_p1] <;> (try simp only [map_to_bind,some_elim,g26p1_F])
@[reducible,simp] def g26p2_F:Str→Out:=(fun t=>(.ret,[(2,(.str t))],[]))
def impl_Filter_text_p2 (v7:Int×Int×Bool) (v8:Str):Option (Str):=if v7.2.2=true then if v8.length+(([63]:Str)).length≤9223372036854775807 then some (((v8++([63]:Str)))) else none else some v8
@[simp] theorem g26p2_eq (y0 y1 y2 y3):X g26_S g26p2_c [(1,(.ptr 0 0 0)),(3,(.str y3))] [(.live 3 [[(.int .i64 y0),(.int .i64 y1),(.bool y2)]])]=(impl_Filter_text_p2 ((y0,y1,y2)) y3).map g26p2_F:=by
  simp (maxSteps:=2000000) (maxDischargeDepth:=8) -implicitDefEqProofs [g26p2_c,impl_Filter_text_p2] <;> (try simp only [map_to_bind,some_elim,g26p2_F])
def impl_Filter_text (a_f:Int×Int×Bool):Option (Str):=if 0≤a_f.1∧a_f.1 < (6:Int) then (([([]:Str),([115,104,117,102,102,108,101]:Str),([100,101,108,116,97]:Str),([114,117,110]:Str),([108,122]:Str),([115,117,109]:Str)]:List Str)[(a_f.1).toNat]?).bind fun s1=>if a_f.1=1 then (impl_Filter_text_p1 a_f s1).bind fun r5=>(impl_Filter_text_p2 r5.1 r5.2).bind fun r9=>some r9 else if a_f.1=2 then (impl_Filter_text_p1 a_f s1).bind fun r6=>(impl_Filter_text_p2 r6.1 r6.2).bind fun r10=>some r10 else (impl_Filter_text_p2 a_f s1).bind fun r11=>some r11 else none
@[simp] def g26_O:Str→TV×List Blk:=fun r=>((.str r),[])
def g26_E (a:(Int×Int×Bool)):List TV:=[(.agg [(.int .i64 a.1),(.int .i64 a.2.1),(.bool a.2.2)])]
theorem g26_run (a_f:Int×Int×Bool) :callFn (X g26_S) g26_tf (g26_E a_f) []=(impl_Filter_text a_f).map g26_O:=by
  rw [callFn_eq]
  simp (maxSteps:=2000000) (maxDischargeDepth:=8) -implicitDefEqProofs [g26_tf,impl_Filter_text,g26_E] <;> (try simp only [map_to_bind,some_elim,g26_O])
def g26_r:Rule:=RlO g26_E (fun a=>impl_Filter_text a) g26_O
theorem g26_ok:RuleOk Tryd.prog 101 g26_r:=ok_rlo (S:=g26_S) (tf:=g26_tf) (SysOk.on ⟨g37_ok,trivial⟩ trivial) (trE_ok (ks:=[]) Tryd.func101 (by kernel_rfl)) fun a=>g26_run a
@[simp] theorem g26_app (y0 y1 y2):g26_r [(.agg [(.int .i64 y0),(.int .i64 y1),(.bool y2)])]=(impl_Filter_text ((y0,y1,y2))).map g26_O :=
  RlO_app (enc:=g26_E) (by intro a b h;simp [g26_E,Prod.ext_iff] at h ⊢;simp [h]) ((y0,y1,y2))
/-! strings.Join -/
noncomputable def strings_Join (l:List Str) (s:Str):Option Str:=joinS l s
noncomputable def strings_Join_r:Rule:=join_r
@[simp] theorem strings_Join_app (y0 y1):strings_Join_r [.vs (rows y0),.str y1]=(strings_Join y0 y1).map (fun r=>(.str r,[])):=joinS_app y0 y1
/-! impl.pipelineText -/
def g22l1_cb:TC:=(sq [bn 12 .lss (.t 11) (.t 10)] [3,9,10,11,12] (.seq (.cond (.t 12) .skip (.keep (kp [(3,1)] [(0,1)] 0) (.exit 0))) (.trim [3,9,10,11] (.seq (.block 1 (sq [ia 13 3 9 11,ln 14 3 13,oo 5 (.alloc [(.int .i64 0),(.int .i64 0),(.bool false)]),⟨none,none,(.store 3 (.t 5) (.t 14))⟩] [3,5,9,10,11] (.ops [mo 15 3,ln 16 3 5,ca 17 101 [.t 16],oo 18 (.bslice [(.str [])] 1 [(0,(.t 17))]),oo 19 (.append 9 1 16 (.t 15) (.t 18)),mo 3 19]))) (.trim [3,9,10,11] (.after (.ops [bn 20 .add (.t 11) (ki 1),mo 11 20]) (kp [(3,1),(9,0),(10,0),(11,0)] [(3,1)] 0)))))))
def g22l1_c:TC:=.loop [3,9,10,11] g22l1_cb
def g22_tf:TFn:=⟨(sq [mk 2 (.c (.str []))] [0] (.seq (sq [mo 6 0,le 7 6,bn 8 .eql (.t 7) (ki 0)] [0,8] (.cond (.t 8) (.seq (.ops [mk 2 (.c (.str [110,111,110,101]))]) (.keep (kp [(2,0)] [] 0) .ret)) .skip)) (.trim [0] (sq [mk 3 (.c .nils)] [0,3] (.seq (sq [mo 9 0,le 10 9,mk 11 (ki 0)] [3,9,10,11] (.block 0 (.keep (kp [(3,1),(9,0),(10,0),(11,0)] [(1000,1)] 0) g22l1_c))) (.trim [3] (.seq (.ops [mo 21 3,oo 22 (.call 85 [.t 21,(.c (.str [43]))]),mo 2 22]) (.keep (kp [(2,0)] [] 0) .ret)))))))),[.t 2]⟩
abbrev g22_S:=Sys.on [(101,g26_r),(85,strings_Join_r)] []
@[reducible,simp] def g22l1_F:(List Str)→Out:=(fun t=>(.ext 0,[(3,(ow 0 t.length))],[(ob 1 t)]))
def impl_pipelineText_l1_b (v2:List (Int×Int×Bool)) (v3:Int) (v1:List Str) (v4:Int):Option ((List Str×Int) ⊕ (List Str)):=if v4 < v3 then if 0≤v4 then (v2[(v4).toNat]?).bind fun x5=>(impl_Filter_text x5).bind fun r6=>(appL 16 v1 ((lit [r6]:List Str))).bind fun l7=>some (.inl (l7,(IntKind.i64.wrap (v4+1)))) else none else some (.inr v1)
theorem g22l1_b_eq  (v2:List (Int×Int×Bool)) (v3:Int) (v1:List Str) (v4:Int):X g22_S g22l1_cb (keepEnv [3,9,10,11] [(3,(ow 0 v1.length)),(9,(.vs (rows v2))),(10,(.int .i64 v3)),(11,(.int .i64 v4))]) [(ob 1 v1)]=(impl_pipelineText_l1_b v2 v3 v1 v4).map (Sum.elim (fun s=>(TX.nrm,[(3,(ow 0 s.1.length)),(9,(.vs (rows v2))),(10,(.int .i64 v3)),(11,(.int .i64 s.2))],[(ob 1 s.1)])) g22l1_F):=by
  simp (maxSteps:=2000000) (maxDischargeDepth:=8) -implicitDefEqProofs [g22l1_cb,impl_pipelineText_l1_b,bslV_lit (α:=Str) (zs:=[(.str [])])] <;> (try simp only [map_to_bind,some_elim,g22l1_F])
def impl_pipelineText_l1 (v2:List (Int×Int×Bool)) (v3:Int) (s:List Str×Int):Option (List Str):=loopO (fun s=>impl_pipelineText_l1_b v2 v3 s.1 s.2) s
@[simp] theorem g22l1_eq (y0:List Str)(y1 y2 y3){n1:Nat}(h1:n1=y0.length):X g22_S g22l1_c [(3,(ow 0 n1)),(9,(.vs (rows y1))),(10,(.int .i64 y2)),(11,(.int .i64 y3))] [(ob 1 y0)]=(impl_pipelineText_l1 y1 y2 (y0,y3)).map g22l1_F:=by
  subst h1
  exact loop_X _ _ _ _ (by intro r;first | (simp;done) | (rcases r with r | r <;> simp;done) | (rcases r with r | r | r <;> simp;done) | (rcases r with r | r | r | r <;> simp)) (fun s=>g22l1_b_eq  y1 y2 s.1 s.2) (y0,y3)
@[simp] theorem g22l1_eq_0 (y0 y1 y2):X g22_S g22l1_c [(3,.es),(9,(.vs (rows y0))),(10,(.int .i64 y1)),(11,(.int .i64 y2))] [.dead]=(impl_pipelineText_l1 y0 y1 (([]:List Str),y2)).map g22l1_F :=
  g22l1_eq  ([]:List Str) y0 y1 y2 rfl
def impl_pipelineText (a_list:List (Int×Int×Bool)):Option (Str):=if (a_list.length:Int)=0 then some (([110,111,110,101]:Str)) else (impl_pipelineText_l1 a_list ((a_list.length:Int)) ((([]:List Str),0))).bind fun r8=>(strings_Join r8 (([43]:Str))).bind fun r9=>some r9
@[simp] def g22_O:Str→TV×List Blk:=fun r=>((.str r),[])
def g22_E (a:(List (Int×Int×Bool))):List TV:=[(.vs (rows a))]
theorem g22_run (a_list:List (Int×Int×Bool)) :callFn (X g22_S) g22_tf (g22_E a_list) []=(impl_pipelineText a_list).map g22_O:=by
  rw [callFn_eq]
  simp (maxSteps:=2000000) (maxDischargeDepth:=8) -implicitDefEqProofs [g22_tf,impl_pipelineText,g22_E,bslV_lit (α:=Str) (zs:=[(.str [])])] <;> (try simp only [map_to_bind,some_elim,g22_O])
def g22_r:Rule:=RlO g22_E (fun a=>impl_pipelineText a) g22_O
theorem g22_ok:RuleOk Tryd.prog 56 g22_r:=ok_rlo (S:=g22_S) (tf:=g22_tf) (SysOk.on ⟨g26_ok,strings_Join_ok,trivial⟩ trivial) (trE_ok (ks:=[[3,9,10,11]]) Tryd.func56 (by kernel_rfl)) fun a=>g22_run a
@[simp] theorem g22_app (y0):g22_r [(.vs (rows y0))]=(impl_pipelineText y0).map g22_O :=
  RlO_app (enc:=g22_E) (by intro a b h;simp [g22_E,Prod.ext_iff] at h ⊢;simp [h]) y0
/-! impl.ReadPipeline -/
def g23l1_cb:TC:=(.seq (sq [mo 14 4,nk 15 14,fa 16 1 15,ld 17 16,nt 18 17,mo 19 18,⟨(some 20),(some (19,true)),(.mv (.t 4))⟩,⟨(some 21),(some (19,true)),(.callM 54 0 [0] [.t 20,(.c (.str [43]))])⟩,pk 22 (.t 19) (.t 21) (kb false)] [0,4,5,22] (.cond (.t 22) .skip (.keep (kp [(0,0),(4,0),(5,1)] [(0,0),(1,1)] 0) (.exit 0)))) (.trim [0,4,5] (.block 1 (.after (.ops [mo 23 5,mo 24 4,oo 25 (.callM 53 0 [0] [.t 24]),oo 26 (.bslice [(.int .i64 0),(.int .i64 0),(.bool false)] 1 [(0,(.t 25))]),oo 27 (.append 80 3 24 (.t 23) (.t 26)),mo 5 27]) (kp [(0,0),(4,0),(5,1)] [(0,0),(4,1)] 0)))))
def g23l1_c:TC:=.loop [0,4,5] g23l1_cb
def g23_tf:TFn:=⟨(sq [mk 2 (.c .nils),mk 3 (kb false)] [0] (.seq (sq [mo 6 0,oo 7 (.bin .str .eql (.t 6) (.c (.str [110,111,110,101])))] [0,7] (.cond (.t 7) (.seq (.ops [mk 2 (.c .nils),mk 3 (kb true)]) (.keep (kp [(2,1),(3,0)] [(1000,1)] 0) .ret)) .skip)) (.trim [0] (sq [mo 8 0,oo 9 (.build [(.str []),(.bool false)] [(0,1,(.t 8))]),bx 10 9,mo 4 10] [0,4] (sq [mo 11 4,oo 12 (.callM 53 0 [0] [.t 11]),oo 13 (.bslice [(.int .i64 0),(.int .i64 0),(.bool false)] 1 [(0,(.t 12))]),mo 5 13] [0,4,5] (.seq (.block 0 (.keep (kp [(0,0),(4,0),(5,1)] [(0,0),(2,1)] 0) g23l1_c)) (.trim [0,4,5] (.seq (sq [mo 28 4,nk 29 28,fa 30 1 29,ld 31 30,mo 32 31,⟨(some 33),(some (32,false)),(.mv (.t 5))⟩,⟨(some 34),(some (32,false)),(.call 55 [.t 33])⟩,⟨(some 35),(some (32,false)),(.un .not (.t 34))⟩,pk 36 (.t 32) (kb true) (.t 35),mo 37 36,⟨(some 38),(some (37,false)),(.mv (.t 5))⟩,⟨(some 39),(some (37,false)),(.call 56 [.t 38])⟩,⟨(some 40),(some (37,false)),(.mv (.t 0))⟩,⟨(some 41),(some (37,false)),(.bin .str .neq (.t 39) (.t 40))⟩,pk 42 (.t 37) (kb true) (.t 41)] [5,42] (.cond (.t 42) (.seq (.ops [mk 2 (.c .nils),mk 3 (kb false)]) (.keep (kp [(2,1),(3,0)] [(1000,1)] 0) .ret)) .skip)) (.trim [5] (.seq (.ops [mo 43 5,mo 2 43,mk 3 (kb true)]) (.keep (kp [(2,1),(3,0)] [(1,1)] 0) .ret))))))))))),[.t 2,.t 3]⟩
abbrev g23_S:=Sys.on [(55,g17_r),(56,g22_r)] [((53,0),(1,g9_r)),((54,0),(1,g6_r))]
@[reducible,simp] def g23l1_F:(Str×(Str×Bool)×(List (Int×Int×Bool)))→Out:=(fun t=>(.ext 0,[(0,(.str t.1)),(4,(.ptr 0 0 0)),(5,(ow 1 t.2.2.length))],[(.live 2 [[(.str t.2.1.1),(.bool t.2.1.2)]]),(ob 3 t.2.2)]))
def impl_ReadPipeline_l1_b (v2:Str) (v3:Str×Bool) (v4:List (Int×Int×Bool)):Option (((Str×Bool)×(List (Int×Int×Bool))) ⊕ (Str×(Str×Bool)×(List (Int×Int×Bool)))):=if ¬(v3.2=true) then (impl_scanner_accept_o0b v3 (([43]:Str))).bind fun r5=>if r5.2=true then (impl_scanner_filter_od0 r5.1).bind fun r6=>(appL 24 v4 ((lit [(r6.2.1,r6.2.2.1,r6.2.2.2)]:List (Int×Int×Bool)))).bind fun l7=>some (.inl (r6.1,l7)) else some (.inr (v2,r5.1,v4)) else some (.inr (v2,v3,v4))
theorem g23l1_b_eq  (v2:Str) (v3:Str×Bool) (v4:List (Int×Int×Bool)):X g23_S g23l1_cb (keepEnv [0,4,5] [(0,(.str v2)),(4,(.ptr 0 0 0)),(5,(ow 1 v4.length))]) [(.live 2 [[(.str v3.1),(.bool v3.2)]]),(ob 3 v4)]=(impl_ReadPipeline_l1_b v2 v3 v4).map (Sum.elim (fun s=>(TX.nrm,[(0,(.str v2)),(4,(.ptr 0 0 0)),(5,(ow 1 s.2.length))],[(.live 2 [[(.str s.1.1),(.bool s.1.2)]]),(ob 3 s.2)])) g23l1_F):=by
  simp (maxSteps:=2000000) (maxDischargeDepth:=8) -implicitDefEqProofs [g23l1_cb,impl_ReadPipeline_l1_b,bslV_lit (α:=Int×Int×Bool) (zs:=[(.int .i64 0),(.int .i64 0),(.bool false)])] <;> (try simp only [map_to_bind,some_elim,g23l1_F])
def impl_ReadPipeline_l1 (v2:Str) (s:(Str×Bool)×(List (Int×Int×Bool))):Option (Str×(Str×Bool)×(List (Int×Int×Bool))):=loopO (fun s=>impl_ReadPipeline_l1_b v2 s.1 s.2) s
@[simp] theorem g23l1_eq (y0 y1 y2)(y3:List (Int×Int×Bool)){n1:Nat}(h1:n1=y3.length):X g23_S g23l1_c [(0,(.str y0)),(4,(.ptr 0 0 0)),(5,(ow 1 n1))] [(.live 2 [[(.str y1),(.bool y2)]]),(ob 3 y3)]=(impl_ReadPipeline_l1 y0 ((y1,y2),y3)).map g23l1_F:=by
  subst h1
  exact loop_X _ _ _ _ (by intro r;first | (simp;done) | (rcases r with r | r <;> simp;done) | (rcases r with r | r | r <;> simp;done) | (rcases r with r | r | r | r <;> simp)) (fun s=>g23l1_b_eq  y0 s.1 s.2) ((y1,y2),y3)
def impl_ReadPipeline (a_s:Str):Option ((List (Int×Int×Bool))×Bool):=if a_s=([110,111,110,101]:Str) then some (([]:List (Int×Int×Bool)),true) else (impl_scanner_filter_od0 ((a_s,false))).bind fun r1=>(impl_ReadPipeline_l1 a_s ((r1.1,(lit [(r1.2.1,r1.2.2.1,r1.2.2.2)]:List (Int×Int×Bool))))).bind fun r8=>if r8.2.1.2=true then some (([]:List (Int×Int×Bool)),false) else (impl_ValidPipeline r8.2.2).bind fun r9=>if ¬(r9=true) then some (([]:List (Int×Int×Bool)),false) else (impl_pipelineText r8.2.2).bind fun r10=>if ¬(r10=r8.1) then some (([]:List (Int×Int×Bool)),false) else some (r8.2.2,true)
@[simp] def g23_O:((List (Int×Int×Bool))×Bool)→TV×List Blk:=fun r=>((.tup [(ow 0 r.1.length),(.bool r.2)]),[(ob 3 r.1)])
def g23_E (a:Str):List TV:=[(.str a)]
theorem g23_run (a_s:Str) :callFn (X g23_S) g23_tf (g23_E a_s) []=(impl_ReadPipeline a_s).map g23_O:=by
  rw [callFn_eq]
  simp (maxSteps:=2000000) (maxDischargeDepth:=8) -implicitDefEqProofs [g23_tf,impl_ReadPipeline,g23_E,bslV_lit (α:=Int×Int×Bool) (zs:=[(.int .i64 0),(.int .i64 0),(.bool false)])] <;> (try simp only [map_to_bind,some_elim,g23_O])
def g23_r:Rule:=RlO g23_E (fun a=>impl_ReadPipeline a) g23_O
theorem g23_ok:RuleOk Tryd.prog 19 g23_r:=ok_rlo (S:=g23_S) (tf:=g23_tf) (SysOk.on ⟨g17_ok,g22_ok,trivial⟩ ⟨g9_ok,g6_ok,trivial⟩) (trE_ok (ks:=[[0,4,5]]) Tryd.func19 (by kernel_rfl)) fun a=>g23_run a
@[simp] theorem g23_app (y0):g23_r [(.str y0)]=(impl_ReadPipeline y0).map g23_O :=
  RlO_app (enc:=g23_E) (by intro a b h;simp [g23_E,Prod.ext_iff] at h ⊢;simp [h]) y0
/-! laws.eqFilter -/
def g33_tf:TFn:=⟨(sq [bx 2 0,bx 3 1,mk 4 (kb false)] [2,3] (.seq (sq [fa 5 0 2,ld 6 5,fa 7 0 3,ld 8 7,bn 9 .neq (.t 6) (.t 8)] [2,3,9] (.cond (.t 9) (.seq (.ops [mk 4 (kb false)]) (.keep (kp [(4,0)] [] 0) .ret)) .skip)) (.trim [2,3] (.seq (sq [fa 10 1 2,ld 11 10,fa 12 1 3,ld 13 12,bn 14 .neq (.t 11) (.t 13)] [2,3,14] (.cond (.t 14) (.seq (.ops [mk 4 (kb false)]) (.keep (kp [(4,0)] [] 0) .ret)) .skip)) (.trim [2,3] (.seq (sq [fa 15 2 2,ld 16 15,fa 17 2 3,ld 18 17,oo 19 (.bin .bool .neq (.t 16) (.t 18))] [19] (.cond (.t 19) (.seq (.ops [mk 4 (kb false)]) (.keep (kp [(4,0)] [] 0) .ret)) .skip)) (.trim [] (.seq (.ops [mk 4 (kb true)]) (.keep (kp [(4,0)] [] 0) .ret))))))))),[.t 4]⟩
abbrev g33_S:=Sys.on [] []
def laws_eqFilter (a_a:Int×Int×Bool) (a_b:Int×Int×Bool):Option (Bool):=if ¬(a_a.1=a_b.1) then some false else if ¬(a_a.2.1=a_b.2.1) then some false else if ((!(a_a.2.2 == a_b.2.2)))=true then some false else some true
@[simp] def g33_O:Bool→TV×List Blk:=fun r=>((.bool r),[])
def g33_E (a:(Int×Int×Bool)×(Int×Int×Bool)):List TV:=[(.agg [(.int .i64 a.1.1),(.int .i64 a.1.2.1),(.bool a.1.2.2)]),(.agg [(.int .i64 a.2.1),(.int .i64 a.2.2.1),(.bool a.2.2.2)])]
theorem g33_run (a_a:Int×Int×Bool) (a_b:Int×Int×Bool) :callFn (X g33_S) g33_tf (g33_E (a_a,a_b)) []=(laws_eqFilter a_a a_b).map g33_O:=by
  rw [callFn_eq]
  simp (maxSteps:=2000000) (maxDischargeDepth:=8) -implicitDefEqProofs [g33_tf,laws_eqFilter,g33_E] <;> (try simp only [map_to_bind,some_elim,g33_O])
def g33_r:Rule:=RlO g33_E (fun a=>laws_eqFilter a.1 a.2) g33_O
theorem g33_ok:RuleOk Tryd.prog 57 g33_r:=ok_rlo (S:=g33_S) (tf:=g33_tf) (SysOk.on trivial trivial) (trE_ok (ks:=[]) Tryd.func57 (by kernel_rfl)) fun a=>g33_run a.1 a.2
@[simp] theorem g33_app (y0 y1 y2 y3 y4 y5):g33_r [(.agg [(.int .i64 y0),(.int .i64 y1),(.bool y2)]),(.agg [(.int .i64 y3),(.int .i64 y4),(.bool y5)])]=(laws_eqFilter ((y0,y1,y2)) ((y3,y4,y5))).map g33_O :=
  RlO_app (enc:=g33_E) (by intro a b h;simp [g33_E,Prod.ext_iff] at h ⊢;simp [h]) ((y0,y1,y2),(y3,y4,y5))
/-! laws.eqFilterS -/
def g30l1_cb:TC:=(.seq (sq [mo 11 5,mo 12 0,le 13 12,bn 14 .lss (.t 11) (.t 13)] [0,1,5,14] (.cond (.t 14) .skip (.keep (kp [] [] 0) (.exit 0)))) (.trim [0,1,5] (.seq (.block 1 (.seq (.draw [([],mo 17 0),([],mo 18 5),([0,1],ia 19 3 17 18),([0,1,2],ln 20 3 19),([],mo 21 1),([],mo 22 5),([4,5],ia 23 3 21 22),([4,5,6],ln 24 3 23)] [ca 25 57 [.t 20,.t 24],nt 26 25]) (.trim [0,1,5,26] (.cond (.t 26) (.seq (.ops [mk 4 (kb false)]) (.keep (kp [(4,0)] [] 0) .ret)) .skip)))) (.trim [0,1,5] (.after (.ops [mo 15 5,bn 16 .add (.t 15) (ki 1),mo 5 16]) (kp [(0,0),(1,0),(5,0)] [] 0))))))
def g30l1_c:TC:=.loop [0,1,5] g30l1_cb
def g30_tf:TFn:=⟨(sq [mk 4 (kb false)] [0,1] (.seq (sq [mo 6 0,le 7 6,mo 8 1,le 9 8,bn 10 .neq (.t 7) (.t 9)] [0,1,10] (.cond (.t 10) (.seq (.ops [mk 4 (kb false)]) (.keep (kp [(4,0)] [] 0) .ret)) .skip)) (.trim [0,1] (.seq (sq [mk 5 (ki 0)] [0,1,5] (.block 0 (.keep (kp [(0,0),(1,0),(5,0)] [] 0) g30l1_c))) (.trim [] (.seq (.ops [mk 4 (kb true)]) (.keep (kp [(4,0)] [] 0) .ret))))))),[.t 4]⟩
abbrev g30_S:=Sys.on [(57,g33_r)] []
@[reducible,simp] def g30l1_F:((Unit) ⊕ (Bool))→Out:=(Sum.elim (fun t=>(.ext 0,[],[])) (fun t=>(.ret,[(4,(.bool t))],[])))
def laws_eqFilterS_l1_b (v1:List (Int×Int×Bool)) (v2:List (Int×Int×Bool)) (v3:Int):Option ((Int) ⊕ ((Unit) ⊕ (Bool))):=if v3 < (v1.length:Int) then if 0≤v3 then (v1[(v3).toNat]?).bind fun x4=>if 0≤v3 then (v2[(v3).toNat]?).bind fun x5=>(laws_eqFilter x4 x5).bind fun r6=>if ¬(r6=true) then some (.inr (.inr false)) else some (.inl ((IntKind.i64.wrap (v3+1)))) else none else none else some (.inr (.inl ()))
theorem g30l1_b_eq  (v1:List (Int×Int×Bool)) (v2:List (Int×Int×Bool)) (v3:Int):X g30_S g30l1_cb (keepEnv [0,1,5] [(0,(.vs (rows v1))),(1,(.vs (rows v2))),(5,(.int .i64 v3))]) []=(laws_eqFilterS_l1_b v1 v2 v3).map (Sum.elim (fun s=>(TX.nrm,[(0,(.vs (rows v1))),(1,(.vs (rows v2))),(5,(.int .i64 s))],[])) g30l1_F):=by
  simp (maxSteps:=2000000) (maxDischargeDepth:=8) -implicitDefEqProofs [g30l1_cb,laws_eqFilterS_l1_b] <;> (try simp only [map_to_bind,some_elim,g30l1_F])
def laws_eqFilterS_l1 (v1:List (Int×Int×Bool)) (v2:List (Int×Int×Bool)) (s:Int):Option ((Unit) ⊕ (Bool)):=loopO (fun s=>laws_eqFilterS_l1_b v1 v2 s) s
@[simp] theorem g30l1_eq (y0 y1 y2):X g30_S g30l1_c [(0,(.vs (rows y0))),(1,(.vs (rows y1))),(5,(.int .i64 y2))] []=(laws_eqFilterS_l1 y0 y1 y2).map g30l1_F:=by
  exact loop_X _ _ _ _ (by intro r;first | (simp;done) | (rcases r with r | r <;> simp;done) | (rcases r with r | r | r <;> simp;done) | (rcases r with r | r | r | r <;> simp)) (fun s=>g30l1_b_eq  y0 y1 s) y2
def laws_eqFilterS (a_a:List (Int×Int×Bool)) (a_b:List (Int×Int×Bool)):Option (Bool):=if ¬((a_a.length:Int)=(a_b.length:Int)) then some false else (laws_eqFilterS_l1 a_a a_b 0).bind fun r7=>Sum.elim (fun u8=>some true) (fun u9=>some u9) r7
@[simp] def g30_O:Bool→TV×List Blk:=fun r=>((.bool r),[])
def g30_E (a:(List (Int×Int×Bool))×(List (Int×Int×Bool))):List TV:=[(.vs (rows a.1)),(.vs (rows a.2))]
theorem g30_run (a_a:List (Int×Int×Bool)) (a_b:List (Int×Int×Bool)) :callFn (X g30_S) g30_tf (g30_E (a_a,a_b)) []=(laws_eqFilterS a_a a_b).map g30_O:=by
  rw [callFn_eq]
  simp (maxSteps:=2000000) (maxDischargeDepth:=8) -implicitDefEqProofs [g30_tf,laws_eqFilterS,g30_E] <;> (try simp only [map_to_bind,some_elim,g30_O])
def g30_r:Rule:=RlO g30_E (fun a=>laws_eqFilterS a.1 a.2) g30_O
theorem g30_ok:RuleOk Tryd.prog 20 g30_r:=ok_rlo (S:=g30_S) (tf:=g30_tf) (SysOk.on ⟨g33_ok,trivial⟩ trivial) (trE_ok (ks:=[[0,1,5],[8]]) Tryd.func20 (by kernel_rfl)) fun a=>g30_run a.1 a.2
@[simp] theorem g30_app (y0 y1):g30_r [(.vs (rows y0)),(.vs (rows y1))]=(laws_eqFilterS y0 y1).map g30_O :=
  RlO_app (enc:=g30_E) (by intro a b h;simp [g30_E,Prod.ext_iff] at h ⊢;simp [h]) (y0,y1)
/-! laws.markFilterS -/
def g16l1_cb:TC:=(.seq (sq [mo 6 5,mo 7 0,le 8 7,bn 9 .lss (.t 6) (.t 8)] [0,1,5,9] (.cond (.t 9) .skip (.keep (kp [(1,0)] [(0,1)] 1) (.exit 0)))) (.trim [0,1,5] (.seq (.block 1 (sq [mo 12 0,mo 13 5,mo 14 1,ia 15 3 12 13,fa 16 0 15,⟨none,none,(.store 1 (.t 16) (.t 14))⟩] [0,1,5] (sq [mo 17 1,bn 18 .add (.t 17) (ki 1),mo 1 18] [0,1,5] (sq [mo 19 0,mo 20 5,mo 21 1,ia 22 3 19 20,fa 23 1 22,⟨none,none,(.store 1 (.t 23) (.t 21))⟩] [0,1,5] (sq [mo 24 1,bn 25 .add (.t 24) (ki 1),mo 1 25] [0,1,5] (sq [mo 26 0,mo 27 5,mo 28 1,bn 29 .rem (.t 28) (ki 3),bn 30 .eql (.t 29) (ki 0),ia 31 3 26 27,fa 32 2 31,⟨none,none,(.store 1 (.t 32) (.t 30))⟩] [0,1,5] (.ops [mo 33 1,bn 34 .add (.t 33) (ki 1),mo 1 34]))))))) (.trim [0,1,5] (.after (.ops [mo 10 5,bn 11 .add (.t 10) (ki 1),mo 5 11]) (kp [(0,0),(1,0),(5,0)] [(0,1)] 1))))))
def g16l1_c:TC:=.loop [0,1,5] g16l1_cb
def g16_tf:TFn:=⟨(sq [mk 4 (ki 0)] [0,1] (.seq (sq [mk 5 (ki 0)] [0,1,5] (.block 0 (.keep (kp [(0,0),(1,0),(5,0)] [(0,1)] 1) g16l1_c))) (.trim [1] (.seq (.ops [mo 35 1,mo 4 35]) (.keep (kp [(4,0)] [(0,1)] 1) .ret))))),[.t 4]⟩
abbrev g16_S:=Sys.on [] []
@[reducible,simp] def g16l1_F:((List (Int×Int×Bool))×Int)→Out:=(fun t=>(.ext 0,[(1,(.int .i64 t.2))],[(ob 3 t.1)]))
def laws_markFilterS_o8d_l1_b (v1:List (Int×Int×Bool)) (v2:Int) (v3:Int):Option (((List (Int×Int×Bool))×Int×Int) ⊕ ((List (Int×Int×Bool))×Int)):=if v3 < ((v1.length:Nat):Int) then if 0≤v3∧v3 < ((v1.length:Nat):Int) then (v1[(v3).toNat]?).bind fun x4=>if 0≤v3∧v3 < ((v1.length:Nat):Int) then (((v1.set (v3).toNat (v2,x4.2.1,x4.2.2)))[(v3).toNat]?).bind fun x5=>if 0≤v3∧v3 < ((v1.length:Nat):Int) then (((((v1.set (v3).toNat (v2,x4.2.1,x4.2.2))).set (v3).toNat (x5.1,(IntKind.i64.wrap (v2+1)),x5.2.2)))[(v3).toNat]?).bind fun x6=>some (.inl ((((((v1.set (v3).toNat (v2,x4.2.1,x4.2.2))).set (v3).toNat (x5.1,(IntKind.i64.wrap (v2+1)),x5.2.2))).set (v3).toNat (x6.1,x6.2.1,(decide ((Int.tmod ((IntKind.i64.wrap ((IntKind.i64.wrap (v2+1))+1))) 3)=0)))),(IntKind.i64.wrap ((IntKind.i64.wrap ((IntKind.i64.wrap (v2+1))+1))+1)),(IntKind.i64.wrap (v3+1)))) else none else none else none else some (.inr (v1,v2))
theorem g16l1_b_eq  (v1:List (Int×Int×Bool)) (v2:Int) (v3:Int):X g16_S g16l1_cb (keepEnv [0,1,5] [(0,(ow 0 v1.length)),(1,(.int .i64 v2)),(5,(.int .i64 v3))]) [(ob 3 v1)]=(laws_markFilterS_o8d_l1_b v1 v2 v3).map (Sum.elim (fun s=>(TX.nrm,[(0,(ow 0 s.1.length)),(1,(.int .i64 s.2.1)),(5,(.int .i64 s.2.2))],[(ob 3 s.1)])) g16l1_F):=by
  simp (maxSteps:=2000000) (maxDischargeDepth:=8) -implicitDefEqProofs [g16l1_cb,laws_markFilterS_o8d_l1_b] <;> (try simp only [map_to_bind,some_elim,g16l1_F])
def laws_markFilterS_o8d_l1  (s:(List (Int×Int×Bool))×Int×Int):Option ((List (Int×Int×Bool))×Int):=loopO (fun s=>laws_markFilterS_o8d_l1_b  s.1 s.2.1 s.2.2) s
@[simp] theorem g16l1_eq (y0:List (Int×Int×Bool))(y1 y2){n1:Nat}(h1:n1=y0.length):X g16_S g16l1_c [(0,(ow 0 n1)),(1,(.int .i64 y1)),(5,(.int .i64 y2))] [(ob 3 y0)]=(laws_markFilterS_o8d_l1  (y0,y1,y2)).map g16l1_F:=by
  subst h1
  exact loop_X _ _ _ _ (by intro r;first | (simp;done) | (rcases r with r | r <;> simp;done) | (rcases r with r | r | r <;> simp;done) | (rcases r with r | r | r | r <;> simp)) (fun s=>g16l1_b_eq   s.1 s.2.1 s.2.2) (y0,y1,y2)
def laws_markFilterS_o8d (a1:List (Int×Int×Bool)) (a2:Int):Option ((List (Int×Int×Bool))×Int):=(laws_markFilterS_o8d_l1 ((a1,a2,0))).bind fun r7=>some (r7.1,r7.2)
@[simp] def g16_O:((List (Int×Int×Bool))×Int)→TV×List Blk:=fun r=>((.int .i64 r.2),[(ob 3 r.1)])
abbrev g16_T:=(List (Int×Int×Bool))×Int
def g16_E (a:g16_T):List TV:=[(ow 0 a.1.length),(.int .i64 a.2)]
def g16_B (a:g16_T):List Blk:=[(ob 3 a.1)]
theorem g16_run (a1:List (Int×Int×Bool)) (a2:Int) :callFn (X g16_S) g16_tf (g16_E (a1,a2)) (g16_B (a1,a2))=(laws_markFilterS_o8d a1 a2).map g16_O:=by
  rw [callFn_eq]
  simp (maxSteps:=2000000) (maxDischargeDepth:=8) -implicitDefEqProofs [g16_tf,laws_markFilterS_o8d,g16_E,g16_B] <;> (try simp only [map_to_bind,some_elim,g16_O])
def g16_r:MRule:=RmO g16_E g16_B (fun a=>(laws_markFilterS_o8d a.1 a.2).bind fun r=>if r.1.length=a.1.length then some ((fixLen a.1 r.1),r.2) else none) g16_O
theorem g16_ok0:MRuleOk Tryd.prog 21 1 (RmO g16_E g16_B (fun a=>laws_markFilterS_o8d a.1 a.2) g16_O):=ok_rmo (S:=g16_S) (tf:=g16_tf) (SysOk.on trivial trivial) (trE_ok (ks:=[[0,1,5]]) Tryd.func21 (by kernel_rfl)) (by rfl) (fun _=>by simp [g16_B]) (fun _=>by simp) fun a=>g16_run a.1 a.2
theorem g16_ok:MRuleOk Tryd.prog 21 1 g16_r:=g16_ok0.weak fun a r hr=>by
  simp only [Option.bind_eq_some_iff] at hr
  obtain ⟨x,h1,h2⟩:=hr
  split at h2
  · rename_i hc
    simp only [Option.some.injEq] at h2
    rw [h1,← h2]
    simp [fixLen,hc]
  · cases h2
@[simp] theorem g16_app (y0:List (Int×Int×Bool))(y1){n1:Nat}(h1:n1=y0.length):g16_r [(ow 0 n1),(.int .i64 y1)] [(ob 3 y0)]=((laws_markFilterS_o8d y0 y1).bind fun r=>if r.1.length=y0.length then some ((fixLen y0 r.1),r.2) else none).map g16_O:=by
  subst h1
  exact RmO_app (enc:=g16_E) (encB:=g16_B) (by intro a b h h2;simp [g16_E,g16_B,Prod.ext_iff] at h h2 ⊢;simp [h,h2]) (y0,y1)
/-! laws.heldFilterS -/
def g27l1_cb:TC:=(.seq (sq [mo 6 5,mo 7 0,le 8 7,bn 9 .lss (.t 6) (.t 8)] [0,1,5,9] (.cond (.t 9) .skip (.keep (kp [(1,0)] [] 0) (.exit 0)))) (.trim [0,1,5] (.seq (.block 1 (.seq (sq [mo 12 0,mo 13 5,ia 14 3 12 13,fa 15 0 14,ld 16 15,mo 17 1,bn 18 .neq (.t 16) (.t 17)] [0,1,5,18] (.cond (.t 18) (.seq (.ops [mk 4 (ki (-1))]) (.keep (kp [(4,0)] [] 0) .ret)) .skip)) (.trim [0,1,5] (sq [mo 19 1,bn 20 .add (.t 19) (ki 1),mo 1 20] [0,1,5] (.seq (sq [mo 21 0,mo 22 5,ia 23 3 21 22,fa 24 1 23,ld 25 24,mo 26 1,bn 27 .neq (.t 25) (.t 26)] [0,1,5,27] (.cond (.t 27) (.seq (.ops [mk 4 (ki (-1))]) (.keep (kp [(4,0)] [] 0) .ret)) .skip)) (.trim [0,1,5] (sq [mo 28 1,bn 29 .add (.t 28) (ki 1),mo 1 29] [0,1,5] (.seq (sq [mo 30 0,mo 31 5,ia 32 3 30 31,fa 33 2 32,ld 34 33,mo 35 1,bn 36 .rem (.t 35) (ki 3),bn 37 .eql (.t 36) (ki 0),oo 38 (.bin .bool .neq (.t 34) (.t 37))] [0,1,5,38] (.cond (.t 38) (.seq (.ops [mk 4 (ki (-1))]) (.keep (kp [(4,0)] [] 0) .ret)) .skip)) (.trim [0,1,5] (.ops [mo 39 1,bn 40 .add (.t 39) (ki 1),mo 1 40])))))))))) (.trim [0,1,5] (.after (.ops [mo 10 5,bn 11 .add (.t 10) (ki 1),mo 5 11]) (kp [(0,0),(1,0),(5,0)] [] 0))))))
def g27l1_c:TC:=.loop [0,1,5] g27l1_cb
def g27_tf:TFn:=⟨(sq [mk 4 (ki 0)] [0,1] (.seq (sq [mk 5 (ki 0)] [0,1,5] (.block 0 (.keep (kp [(0,0),(1,0),(5,0)] [] 0) g27l1_c))) (.trim [1] (.seq (.ops [mo 41 1,mo 4 41]) (.keep (kp [(4,0)] [] 0) .ret))))),[.t 4]⟩
abbrev g27_S:=Sys.on [] []
@[reducible,simp] def g27l1_F:((Int) ⊕ (Int))→Out:=(Sum.elim (fun t=>(.ext 0,[(1,(.int .i64 t))],[])) (fun t=>(.ret,[(4,(.int .i64 t))],[])))
def laws_heldFilterS_l1_b (v1:List (Int×Int×Bool)) (v2:Int) (v3:Int):Option ((Int×Int) ⊕ ((Int) ⊕ (Int))):=if v3 < (v1.length:Int) then if 0≤v3 then (v1[(v3).toNat]?).bind fun x4=>if ¬(x4.1=v2) then some (.inr (.inr ((-1)))) else if 0≤v3 then (v1[(v3).toNat]?).bind fun x5=>if ¬(x5.2.1=(IntKind.i64.wrap (v2+1))) then some (.inr (.inr ((-1)))) else if 0≤v3 then (v1[(v3).toNat]?).bind fun x6=>if ((!(x6.2.2 == (decide ((Int.tmod ((IntKind.i64.wrap ((IntKind.i64.wrap (v2+1))+1))) 3)=0)))))=true then some (.inr (.inr ((-1)))) else some (.inl ((IntKind.i64.wrap ((IntKind.i64.wrap ((IntKind.i64.wrap (v2+1))+1))+1)),(IntKind.i64.wrap (v3+1)))) else none else none else none else some (.inr (.inl v2))
theorem g27l1_b_eq  (v1:List (Int×Int×Bool)) (v2:Int) (v3:Int):X g27_S g27l1_cb (keepEnv [0,1,5] [(0,(.vs (rows v1))),(1,(.int .i64 v2)),(5,(.int .i64 v3))]) []=(laws_heldFilterS_l1_b v1 v2 v3).map (Sum.elim (fun s=>(TX.nrm,[(0,(.vs (rows v1))),(1,(.int .i64 s.1)),(5,(.int .i64 s.2))],[])) g27l1_F):=by
  simp (maxSteps:=2000000) (maxDischargeDepth:=8) -implicitDefEqProofs [g27l1_cb,laws_heldFilterS_l1_b] <;> (try simp only [map_to_bind,some_elim,g27l1_F])
def laws_heldFilterS_l1 (v1:List (Int×Int×Bool)) (s:Int×Int):Option ((Int) ⊕ (Int)):=loopO (fun s=>laws_heldFilterS_l1_b v1 s.1 s.2) s
@[simp] theorem g27l1_eq (y0 y1 y2):X g27_S g27l1_c [(0,(.vs (rows y0))),(1,(.int .i64 y1)),(5,(.int .i64 y2))] []=(laws_heldFilterS_l1 y0 (y1,y2)).map g27l1_F:=by
  exact loop_X _ _ _ _ (by intro r;first | (simp;done) | (rcases r with r | r <;> simp;done) | (rcases r with r | r | r <;> simp;done) | (rcases r with r | r | r | r <;> simp)) (fun s=>g27l1_b_eq  y0 s.1 s.2) (y1,y2)
def laws_heldFilterS (a_a:List (Int×Int×Bool)) (a_k:Int):Option (Int):=(laws_heldFilterS_l1 a_a ((a_k,0))).bind fun r7=>Sum.elim (fun u8=>some u8) (fun u9=>some u9) r7
@[simp] def g27_O:Int→TV×List Blk:=fun r=>((.int .i64 r),[])
def g27_E (a:(List (Int×Int×Bool))×Int):List TV:=[(.vs (rows a.1)),(.int .i64 a.2)]
theorem g27_run (a_a:List (Int×Int×Bool)) (a_k:Int) :callFn (X g27_S) g27_tf (g27_E (a_a,a_k)) []=(laws_heldFilterS a_a a_k).map g27_O:=by
  rw [callFn_eq]
  simp (maxSteps:=2000000) (maxDischargeDepth:=8) -implicitDefEqProofs [g27_tf,laws_heldFilterS,g27_E] <;> (try simp only [map_to_bind,some_elim,g27_O])
def g27_r:Rule:=RlO g27_E (fun a=>laws_heldFilterS a.1 a.2) g27_O
theorem g27_ok:RuleOk Tryd.prog 22 g27_r:=ok_rlo (S:=g27_S) (tf:=g27_tf) (SysOk.on trivial trivial) (trE_ok (ks:=[[0,1,5]]) Tryd.func22 (by kernel_rfl)) fun a=>g27_run a.1 a.2
@[simp] theorem g27_app (y0 y1):g27_r [(.vs (rows y0)),(.int .i64 y1)]=(laws_heldFilterS y0 y1).map g27_O :=
  RlO_app (enc:=g27_E) (by intro a b h;simp [g27_E,Prod.ext_iff] at h ⊢;simp [h]) (y0,y1)
/-! laws.FnExactReadPipeline -/
def g5_tf:TFn:=⟨(sq [mk 2 (kb false)] [0] (.seq (sq [mo 11 0,oo 12 (.len true (.t 11)),bn 13 .gtr (.t 12) (ki 1048576)] [0,13] (.cond (.t 13) (.seq (.ops [mk 2 (kb true)]) (.keep (kp [(2,0)] [] 0) .ret)) .skip)) (.trim [0] (sq [mo 15 0,ca 16 18 [.t 15],mo 14 16,oo 17 (.ext (.t 14) 0),oo 18 (.ext (.t 14) 1),mo 3 17,mo 4 18] [0,3,4] (sq [mo 20 0,ca 21 19 [.t 20],mo 19 21,oo 22 (.ext (.t 19) 0),oo 23 (.ext (.t 19) 1),mo 5 22,mo 6 23] [0,3,4,5,6] (.seq (sq [mo 24 5,mo 25 3,ca 26 20 [.t 24,.t 25],nt 27 26,mo 28 27,⟨(some 29),(some (28,false)),(.mv (.t 6))⟩,⟨(some 30),(some (28,false)),(.mv (.t 4))⟩,⟨(some 31),(some (28,false)),(.bin .bool .neq (.t 29) (.t 30))⟩,pk 32 (.t 28) (kb true) (.t 31)] [0,3,4,5,32] (.cond (.t 32) (.seq (.ops [mk 2 (kb false)]) (.keep (kp [(2,0)] [] 0) .ret)) .skip)) (.trim [0,3,4,5] (sq [mk 7 (ki 1)] [0,3,4,5,7] (sq [mo 33 5,mo 34 7,oo 35 (.callM 21 0 [1] [.t 33,.t 34]),mo 7 35] [0,3,4,5,7] (sq [mk 8 (ki 1)] [0,3,4,5,7,8] (sq [mo 36 5,mo 37 8,ca 38 22 [.t 36,.t 37],mo 8 38] [0,3,4,5,7,8] (.seq (sq [mo 39 8,bn 40 .lss (.t 39) (ki 0)] [0,3,4,5,7,8,40] (.cond (.t 40) (.seq (.ops [mk 2 (kb false)]) (.keep (kp [(2,0)] [] 0) .ret)) .skip)) (.trim [0,3,4,5,7,8] (.seq (sq [mo 41 8,mo 42 7,bn 43 .neq (.t 41) (.t 42)] [0,3,4,5,7,43] (.cond (.t 43) (.seq (.ops [mk 2 (kb false)]) (.keep (kp [(2,0)] [] 0) .ret)) .skip)) (.trim [0,3,4,5,7] (sq [mo 45 0,ca 46 19 [.t 45],mo 44 46,oo 47 (.ext (.t 44) 0),oo 48 (.ext (.t 44) 1),mo 9 47,mo 10 48] [3,4,5,7,9,10] (.seq (sq [mo 49 9,mo 50 3,ca 51 20 [.t 49,.t 50],nt 52 51,mo 53 52,⟨(some 54),(some (53,false)),(.mv (.t 10))⟩,⟨(some 55),(some (53,false)),(.mv (.t 4))⟩,⟨(some 56),(some (53,false)),(.bin .bool .neq (.t 54) (.t 55))⟩,pk 57 (.t 53) (kb true) (.t 56)] [5,7,57] (.cond (.t 57) (.seq (.ops [mk 2 (kb false)]) (.keep (kp [(2,0)] [] 0) .ret)) .skip)) (.trim [5,7] (sq [mk 8 (ki 1)] [5,7,8] (sq [mo 58 5,mo 59 8,ca 60 22 [.t 58,.t 59],mo 8 60] [7,8] (.seq (sq [mo 61 8,bn 62 .lss (.t 61) (ki 0)] [7,8,62] (.cond (.t 62) (.seq (.ops [mk 2 (kb false)]) (.keep (kp [(2,0)] [] 0) .ret)) .skip)) (.trim [7,8] (.seq (sq [mo 63 8,mo 64 7,bn 65 .neq (.t 63) (.t 64)] [65] (.cond (.t 65) (.seq (.ops [mk 2 (kb false)]) (.keep (kp [(2,0)] [] 0) .ret)) .skip)) (.trim [] (.seq (.ops [mk 2 (kb true)]) (.keep (kp [(2,0)] [] 0) .ret)))))))))))))))))))))))))),[.t 2]⟩
abbrev g5_S:=Sys.on [(18,g19_r),(19,g23_r),(20,g30_r),(22,g27_r)] [((21,0),(1,g16_r))]
def laws_FnExactReadPipeline (a_aS:Str):Option (Bool):=if (a_aS.length:Int) > 1048576 then some true else (spec_ReadPipeline a_aS).bind fun r1=>(impl_ReadPipeline a_aS).bind fun r2=>(laws_eqFilterS r2.1 r1.1).bind fun r3=>if ¬(r3=true) then some false else if ((!(r2.2 == r1.2)))=true then some false else (laws_markFilterS_o8d r2.1 1).bind fun r4=>if r4.1.length=r2.1.length then (laws_heldFilterS ((fixLen r2.1 r4.1)) 1).bind fun r5=>if r5 < 0 then some false else if ¬(r5=r4.2) then some false else (impl_ReadPipeline a_aS).bind fun r6=>(laws_eqFilterS r6.1 r1.1).bind fun r7=>if ¬(r7=true) then some false else if ((!(r6.2 == r1.2)))=true then some false else (laws_heldFilterS ((fixLen r2.1 r4.1)) 1).bind fun r8=>if r8 < 0 then some false else if ¬(r8=r4.2) then some false else some true else none
@[simp] def g5_O:Bool→TV×List Blk:=fun r=>((.bool r),[])
def g5_E (a:Str):List TV:=[(.str a)]
theorem g5_run (a_aS:Str) :callFn (X g5_S) g5_tf (g5_E a_aS) []=(laws_FnExactReadPipeline a_aS).map g5_O:=by
  rw [callFn_eq]
  simp (maxSteps:=2000000) (maxDischargeDepth:=8) -implicitDefEqProofs [g5_tf,laws_FnExactReadPipeline,g5_E] <;> (try simp only [map_to_bind,some_elim,g5_O])
def laws_FnExactReadPipeline_r:Rule:=RlO g5_E (fun a=>laws_FnExactReadPipeline a) g5_O
theorem laws_FnExactReadPipeline_ok:RuleOk Tryd.prog 5 laws_FnExactReadPipeline_r:=ok_rlo (S:=g5_S) (tf:=g5_tf) (SysOk.on ⟨g19_ok,g23_ok,g30_ok,g27_ok,trivial⟩ ⟨g16_ok,trivial⟩) (trE_ok (ks:=[]) Tryd.func5 (by kernel_rfl)) fun a=>g5_run a
@[simp] theorem laws_FnExactReadPipeline_app (y0):laws_FnExactReadPipeline_r [(.str y0)]=(laws_FnExactReadPipeline y0).map g5_O :=
  RlO_app (enc:=g5_E) (by intro a b h;simp [g5_E,Prod.ext_iff] at h ⊢;simp [h]) y0
end
end Go.Proofs.TM
