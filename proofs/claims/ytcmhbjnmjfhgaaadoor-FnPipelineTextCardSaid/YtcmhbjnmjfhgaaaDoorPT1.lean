/- Functions of the program, as functions of their data: written by program. -/
import Derived.Test.YtcmhbjnmjfhgaaaDoorPT0
namespace Go.Proofs.TM
open Go Go.Proofs
set_option linter.unusedVariables false
set_option linter.unusedSimpArgs false
set_option maxHeartbeats 1000000
attribute [-simp] Option.map_bind strV_some
attribute [simp] guardOn_bool sA_bslice Function.comp_def
noncomputable section
/-! (*impl.decoder).byte -/
def g18_tf:TFn:=⟨(sq [mk 2 (ki 0)] [0] (.seq (.ops [mo 3 0,oo 4 (.callM 56 0 [0] [.t 3,ki 1]),mo 2 4]) (.keep (kp [(2,0)] [(0,0)] 1) .ret))),[.t 2]⟩
abbrev g18_S:=Sys.on [] [((56,0),(1,g6_r))]
def impl_decoder_byte_od0 (a1:Str×Bool):Option ((Str×Bool)×Int):=(impl_decoder_number_o1a a1 1).bind fun r1=>some (r1.1,r1.2)
@[simp] def g18_O:((Str×Bool)×Int)→TV×List Blk:=fun r=>((.int .i64 r.2),[(.live 2 [[(.str r.1.1),(.bool r.1.2)]])])
abbrev g18_T:=(Str×Bool)
def g18_E (a:g18_T):List TV:=[(.ptr 0 0 0)]
def g18_B (a:g18_T):List Blk:=[(.live 2 [[(.str a.1),(.bool a.2)]])]
theorem g18_run (a1:Str×Bool) :callFn (X g18_S) g18_tf (g18_E a1) (g18_B a1)=(impl_decoder_byte_od0 a1).map g18_O:=by
  rw [callFn_eq]
  simp (maxSteps:=2000000) (maxDischargeDepth:=8) -implicitDefEqProofs [g18_tf,impl_decoder_byte_od0,g18_E,g18_B] <;> (try simp only [map_to_bind,some_elim,g18_O])
def g18_r:MRule:=RmO g18_E g18_B (fun a=>impl_decoder_byte_od0 a) g18_O
theorem g18_ok:MRuleOk Tryd.prog 25 1 g18_r:=ok_rmo (S:=g18_S) (tf:=g18_tf) (SysOk.on trivial ⟨g6_ok,trivial⟩) (trE_ok (ks:=[]) Tryd.func25 (by kernel_rfl)) (by rfl) (fun _=>by simp [g18_B]) (fun _=>by simp) fun a=>g18_run a
@[simp] theorem g18_app (y0 y1):g18_r [(.ptr 0 0 0)] [(.live 2 [[(.str y0),(.bool y1)]])]=(impl_decoder_byte_od0 ((y0,y1))).map g18_O:=by
  exact RmO_app (enc:=g18_E) (encB:=g18_B) (by intro a b h h2;simp [g18_E,g18_B,Prod.ext_iff] at h h2 ⊢;simp [h,h2]) ((y0,y1))
/-! impl.DecodePipeline -/
def g28l1_cb:TC:=(.seq (sq [mo 12 6,bn 13 .gtr (.t 12) (ki 0),mo 14 13,⟨(some 15),(some (14,true)),(.mv (.t 4))⟩,⟨(some 16),(some (14,true)),(.nilchk (.t 15))⟩,⟨(some 17),(some (14,true)),(.faddr 1 (.t 16))⟩,⟨(some 18),(some (14,true)),(.load none (.t 17))⟩,⟨(some 19),(some (14,true)),(.un .not (.t 18))⟩,pk 20 (.t 14) (.t 19) (kb false)] [0,4,5,6,20] (.cond (.t 20) .skip (.keep (kp [(0,0),(4,0),(5,1)] [(0,0),(1,1)] 0) (.exit 0)))) (.trim [0,4,5,6] (.seq (.block 1 (.ops [mo 23 5,mo 24 4,oo 25 (.callM 25 0 [0] [.t 24]),mo 26 4,oo 27 (.callM 25 0 [0] [.t 26]),mo 28 4,oo 29 (.callM 25 0 [0] [.t 28]),bn 30 .eql (.t 29) (ki 1),oo 31 (.build [(.int .i64 0),(.int .i64 0),(.bool false)] [(0,1,(.t 25)),(1,1,(.t 27)),(2,1,(.t 30))]),oo 32 (.bslice [(.int .i64 0),(.int .i64 0),(.bool false)] 1 [(0,(.t 31))]),oo 33 (.append 55 3 24 (.t 23) (.t 32)),mo 5 33])) (.trim [0,4,5,6] (.after (.ops [mo 21 6,bn 22 .sub (.t 21) (ki 1),mo 6 22]) (kp [(0,0),(4,0),(5,1),(6,0)] [(0,0),(3,1)] 0))))))
def g28l1_c:TC:=.loop [0,4,5,6] g28l1_cb
def g28_tf:TFn:=⟨(sq [mk 2 (.c .nils),mk 3 (kb false)] [0] (sq [mo 7 0,oo 8 (.build [(.str []),(.bool false)] [(0,1,(.t 7))]),bx 9 8,mo 4 9] [0,4] (sq [mk 5 (.c .nils)] [0,4,5] (.seq (sq [mo 10 4,oo 11 (.callM 25 0 [0] [.t 10]),mo 6 11] [0,4,5,6] (.block 0 (.keep (kp [(0,0),(4,0),(5,1),(6,0)] [(0,0),(1000,1)] 0) g28l1_c))) (.trim [0,4,5] (.seq (sq [mo 34 4,nk 35 34,fa 36 1 35,ld 37 36,mo 38 37,⟨(some 39),(some (38,false)),(.mv (.t 5))⟩,⟨(some 40),(some (38,false)),(.call 11 [.t 39])⟩,⟨(some 41),(some (38,false)),(.un .not (.t 40))⟩,pk 42 (.t 38) (kb true) (.t 41),mo 43 42,⟨(some 44),(some (43,false)),(.mv (.t 5))⟩,⟨(some 45),(some (43,false)),(.call 26 [.t 44])⟩,⟨(some 46),(some (43,false)),(.mv (.t 0))⟩,⟨(some 47),(some (43,false)),(.bin .str .neq (.t 45) (.t 46))⟩,pk 48 (.t 43) (kb true) (.t 47)] [5,48] (.cond (.t 48) (.seq (.ops [mk 2 (.c .nils),mk 3 (kb false)]) (.keep (kp [(2,1),(3,0)] [(1000,1)] 0) .ret)) .skip)) (.trim [5] (.seq (.ops [mo 49 5,mo 2 49,mk 3 (kb true)]) (.keep (kp [(2,1),(3,0)] [(1,1)] 0) .ret))))))))),[.t 2,.t 3]⟩
abbrev g28_S:=Sys.on [(11,g31_r),(26,g26_r)] [((25,0),(1,g18_r))]
@[reducible,simp] def g28l1_F:(Str×(Str×Bool)×(List (Int×Int×Bool)))→Out:=(fun t=>(.ext 0,[(0,(.str t.1)),(4,(.ptr 0 0 0)),(5,(ow 1 t.2.2.length))],[(.live 2 [[(.str t.2.1.1),(.bool t.2.1.2)]]),(ob 3 t.2.2)]))
def impl_DecodePipeline_l1_b (v2:Str) (v3:Str×Bool) (v4:List (Int×Int×Bool)) (v5:Int):Option (((Str×Bool)×(List (Int×Int×Bool))×Int) ⊕ (Str×(Str×Bool)×(List (Int×Int×Bool)))):=if v5 > 0 then if ¬(v3.2=true) then (impl_decoder_byte_od0 v3).bind fun r6=>(impl_decoder_byte_od0 r6.1).bind fun r7=>(impl_decoder_byte_od0 r7.1).bind fun r8=>(appL 24 v4 ((lit [(r6.2,r7.2,(decide (r8.2=1)))]:List (Int×Int×Bool)))).bind fun l9=>some (.inl (r8.1,l9,(IntKind.i64.wrap (v5 - 1)))) else some (.inr (v2,v3,v4)) else some (.inr (v2,v3,v4))
theorem g28l1_b_eq  (v2:Str) (v3:Str×Bool) (v4:List (Int×Int×Bool)) (v5:Int):X g28_S g28l1_cb (keepEnv [0,4,5,6] [(0,(.str v2)),(4,(.ptr 0 0 0)),(5,(ow 1 v4.length)),(6,(.int .i64 v5))]) [(.live 2 [[(.str v3.1),(.bool v3.2)]]),(ob 3 v4)]=(impl_DecodePipeline_l1_b v2 v3 v4 v5).map (Sum.elim (fun s=>(TX.nrm,[(0,(.str v2)),(4,(.ptr 0 0 0)),(5,(ow 1 s.2.1.length)),(6,(.int .i64 s.2.2))],[(.live 2 [[(.str s.1.1),(.bool s.1.2)]]),(ob 3 s.2.1)])) g28l1_F):=by
  simp (maxSteps:=2000000) (maxDischargeDepth:=8) -implicitDefEqProofs [g28l1_cb,impl_DecodePipeline_l1_b,bslV_lit (α:=Int×Int×Bool) (zs:=[(.int .i64 0),(.int .i64 0),(.bool false)])] <;> (try simp only [map_to_bind,some_elim,g28l1_F])
def impl_DecodePipeline_l1 (v2:Str) (s:(Str×Bool)×(List (Int×Int×Bool))×Int):Option (Str×(Str×Bool)×(List (Int×Int×Bool))):=loopO (fun s=>impl_DecodePipeline_l1_b v2 s.1 s.2.1 s.2.2) s
@[simp] theorem g28l1_eq (y0 y1 y2)(y3:List (Int×Int×Bool))(y4){n1:Nat}(h1:n1=y3.length):X g28_S g28l1_c [(0,(.str y0)),(4,(.ptr 0 0 0)),(5,(ow 1 n1)),(6,(.int .i64 y4))] [(.live 2 [[(.str y1),(.bool y2)]]),(ob 3 y3)]=(impl_DecodePipeline_l1 y0 ((y1,y2),y3,y4)).map g28l1_F:=by
  subst h1
  exact loop_X _ _ _ _ (by intro r;first | (simp;done) | (rcases r with r | r <;> simp;done) | (rcases r with r | r | r <;> simp;done) | (rcases r with r | r | r | r <;> simp)) (fun s=>g28l1_b_eq  y0 s.1 s.2.1 s.2.2) ((y1,y2),y3,y4)
@[simp] theorem g28l1_eq_2 (y0 y1 y2 y3):X g28_S g28l1_c [(0,(.str y0)),(4,(.ptr 0 0 0)),(5,.es),(6,(.int .i64 y3))] [(.live 2 [[(.str y1),(.bool y2)]]),.dead]=(impl_DecodePipeline_l1 y0 ((y1,y2),([]:List (Int×Int×Bool)),y3)).map g28l1_F :=
  g28l1_eq  y0 y1 y2 ([]:List (Int×Int×Bool)) y3 rfl
def impl_DecodePipeline (a_s:Str):Option ((List (Int×Int×Bool))×Bool):=(impl_decoder_byte_od0 ((a_s,false))).bind fun r1=>(impl_DecodePipeline_l1 a_s ((r1.1,([]:List (Int×Int×Bool)),r1.2))).bind fun r10=>if r10.2.1.2=true then some (([]:List (Int×Int×Bool)),false) else (impl_ValidPipeline r10.2.2).bind fun r11=>if ¬(r11=true) then some (([]:List (Int×Int×Bool)),false) else (impl_encodePipeline r10.2.2).bind fun r12=>if ¬(r12=r10.1) then some (([]:List (Int×Int×Bool)),false) else some (r10.2.2,true)
@[simp] def g28_O:((List (Int×Int×Bool))×Bool)→TV×List Blk:=fun r=>((.tup [(ow 0 r.1.length),(.bool r.2)]),[(ob 3 r.1)])
def g28_E (a:Str):List TV:=[(.str a)]
theorem g28_run (a_s:Str) :callFn (X g28_S) g28_tf (g28_E a_s) []=(impl_DecodePipeline a_s).map g28_O:=by
  rw [callFn_eq]
  simp (maxSteps:=2000000) (maxDischargeDepth:=8) -implicitDefEqProofs [g28_tf,impl_DecodePipeline,g28_E,bslV_lit (α:=Int×Int×Bool) (zs:=[(.int .i64 0),(.int .i64 0),(.bool false)])] <;> (try simp only [map_to_bind,some_elim,g28_O])
def g28_r:Rule:=RlO g28_E (fun a=>impl_DecodePipeline a) g28_O
theorem g28_ok:RuleOk Tryd.prog 6 g28_r:=ok_rlo (S:=g28_S) (tf:=g28_tf) (SysOk.on ⟨g31_ok,g26_ok,trivial⟩ ⟨g18_ok,trivial⟩) (trE_ok (ks:=[[0,4,5,6]]) Tryd.func6 (by kernel_rfl)) fun a=>g28_run a
@[simp] theorem g28_app (y0):g28_r [(.str y0)]=(impl_DecodePipeline y0).map g28_O :=
  RlO_app (enc:=g28_E) (by intro a b h;simp [g28_E,Prod.ext_iff] at h ⊢;simp [h]) y0
/-! strconv.FormatInt -/
noncomputable def strconv_FormatInt (n:Int):Option Str:=fmtS n
noncomputable def strconv_FormatInt_r:Rule:=fmt_r
@[simp] theorem strconv_FormatInt_app (y0):strconv_FormatInt_r [.int .i64 y0,.int .i64 10]=(strconv_FormatInt y0).map (fun r=>(.str r,[])):=fmtS_app y0
/-! impl.decimal -/
def g54_tf:TFn:=⟨(sq [mk 2 (.c (.str []))] [0] (.seq (.ops [mo 3 0,ca 4 115 [.t 3,ki 10],mo 2 4]) (.keep (kp [(2,0)] [] 0) .ret))),[.t 2]⟩
abbrev g54_S:=Sys.on [(115,strconv_FormatInt_r)] []
def impl_decimal (a_n:Int):Option (Str):=(strconv_FormatInt a_n).bind fun r1=>some r1
@[simp] def g54_O:Str→TV×List Blk:=fun r=>((.str r),[])
def g54_E (a:Int):List TV:=[(.int .i64 a)]
theorem g54_run (a_n:Int) :callFn (X g54_S) g54_tf (g54_E a_n) []=(impl_decimal a_n).map g54_O:=by
  rw [callFn_eq]
  simp (maxSteps:=2000000) (maxDischargeDepth:=8) -implicitDefEqProofs [g54_tf,impl_decimal,g54_E] <;> (try simp only [map_to_bind,some_elim,g54_O])
def g54_r:Rule:=RlO g54_E (fun a=>impl_decimal a) g54_O
theorem g54_ok:RuleOk Tryd.prog 102 g54_r:=ok_rlo (S:=g54_S) (tf:=g54_tf) (SysOk.on ⟨strconv_FormatInt_ok,trivial⟩ trivial) (trE_ok (ks:=[]) Tryd.func102 (by kernel_rfl)) fun a=>g54_run a
@[simp] theorem g54_app (y0):g54_r [(.int .i64 y0)]=(impl_decimal y0).map g54_O :=
  RlO_app (enc:=g54_E) (by intro a b h;simp [g54_E,Prod.ext_iff] at h ⊢;simp [h]) y0
/-! (impl.Filter).text -/
def g43p1_c:TC:=(.after (.ops [mo 16 3,fa 17 1 1,ld 18 17,ca 19 102 [.t 18],oo 20 (.bin .str .add (.c (.str [40])) (.t 19)),oo 21 (.bin .str .add (.t 20) (.c (.str [41]))),oo 22 (.bin .str .add (.t 16) (.t 21)),mo 3 22]) (kp [(1,0),(3,0)] [(0,0)] 0))
def g43p2_c:TC:=(.seq (sq [fa 23 2 1,ld 24 23] [3,24] (.cond (.t 24) (.after (.ops [mo 25 3,oo 26 (.bin .str .add (.t 25) (.c (.str [63]))),mo 3 26]) (kp [(3,0)] [] 0)) (.keep (kp [(3,0)] [] 0) .skip))) (.trim [3] (.seq (.ops [mo 27 3,mo 2 27]) (.keep (kp [(2,0)] [] 0) .ret))))
def g43_tf:TFn:=⟨(sq [bx 1 0,mk 2 (.c (.str []))] [1] (sq [oo 4 (.build [(.str []),(.str []),(.str []),(.str []),(.str []),(.str [])] [(1,1,(.c (.str [115,104,117,102,102,108,101]))),(2,1,(.c (.str [100,101,108,116,97]))),(3,1,(.c (.str [114,117,110]))),(4,1,(.c (.str [108,122]))),(5,1,(.c (.str [115,117,109])))]),fa 5 0 1,ld 6 5,oo 7 (.indexA 6 (.t 4) (.t 6)),mo 3 7] [1,3] (.seq (sq [fa 8 0 1,ld 9 8,bn 10 .eql (.t 9) (ki 1),mo 11 10,⟨(some 12),(some (11,false)),(.faddr 0 (.t 1))⟩,⟨(some 13),(some (11,false)),(.load none (.t 12))⟩,⟨(some 14),(some (11,false)),(.bin .num .eql (.t 13) (ki 2))⟩,pk 15 (.t 11) (kb true) (.t 14)] [1,3,15] (.cond (.t 15) (.keep (kp [(1,0),(3,0)] [(0,0)] 0) g43p1_c) (.keep (kp [(1,0),(3,0)] [(0,0)] 0) .skip))) (.trim [1,3] g43p2_c)))),[.t 2]⟩
abbrev g43_S:=Sys.on [(102,g54_r)] []
@[reducible,simp] def g43p1_F:((Int×Int×Bool)×Str)→Out:=(fun t=>(.nrm,[(1,(.ptr 0 0 0)),(3,(.str t.2))],[(.live 3 [[(.int .i64 t.1.1),(.int .i64 t.1.2.1),(.bool t.1.2.2)]])]))
def impl_Filter_text_p1 (v2:Int×Int×Bool) (v3:Str):Option ((Int×Int×Bool)×Str):=(impl_decimal v2.2.1).bind fun r4=>if (([40]:Str)).length+r4.length≤9223372036854775807 then if ((([40]:Str)++r4)).length+(([41]:Str)).length≤9223372036854775807 then if v3.length+(((([40]:Str)++r4)++([41]:Str))).length≤9223372036854775807 then some ((v2,(v3++((([40]:Str)++r4)++([41]:Str))))) else none else none else none
@[simp] theorem g43p1_eq (y0 y1 y2 y3):X g43_S g43p1_c [(1,(.ptr 0 0 0)),(3,(.str y3))] [(.live 3 [[(.int .i64 y0),(.int .i64 y1),(.bool y2)]])]=(impl_Filter_text_p1 ((y0,y1,y2)) y3).map g43p1_F:=by
  simp (maxSteps:=2000000) (maxDischargeDepth:=8) -implicitDefEqProofs [g43p1_c,impl_Filter_text_p1] <;> (try simp only [map_to_bind,some_elim,g43p1_F])
@[reducible,simp] def g43p2_F:Str→Out:=(fun t=>(.ret,[(2,(.str t))],[]))
def impl_Filter_text_p2 (v7:Int×Int×Bool) (v8:Str):Option (Str):=if v7.2.2=true then if v8.length+(([63]:Str)).length≤9223372036854775807 then some (((v8++([63]:Str)))) else none else some v8
@[simp] theorem g43p2_eq (y0 y1 y2 y3):X g43_S g43p2_c [(1,(.ptr 0 0 0)),(3,(.str y3))] [(.live 3 [[(.int .i64 y0),(.int .i64 y1),(.bool y2)]])]=(impl_Filter_text_p2 ((y0,y1,y2)) y3).map g43p2_F:=by
  simp (maxSteps:=2000000) (maxDischargeDepth:=8) -implicitDefEqProofs [g43p2_c,impl_Filter_text_p2] <;> (try simp only [map_to_bind,some_elim,g43p2_F])
def impl_Filter_text (a_f:Int×Int×Bool):Option (Str):=if 0≤a_f.1∧a_f.1 < (6:Int) then (([([]:Str),([115,104,117,102,102,108,101]:Str),([100,101,108,116,97]:Str),([114,117,110]:Str),([108,122]:Str),([115,117,109]:Str)]:List Str)[(a_f.1).toNat]?).bind fun s1=>if a_f.1=1 then (impl_Filter_text_p1 a_f s1).bind fun r5=>(impl_Filter_text_p2 r5.1 r5.2).bind fun r9=>some r9 else if a_f.1=2 then (impl_Filter_text_p1 a_f s1).bind fun r6=>(impl_Filter_text_p2 r6.1 r6.2).bind fun r10=>some r10 else (impl_Filter_text_p2 a_f s1).bind fun r11=>some r11 else none
@[simp] def g43_O:Str→TV×List Blk:=fun r=>((.str r),[])
def g43_E (a:(Int×Int×Bool)):List TV:=[(.agg [(.int .i64 a.1),(.int .i64 a.2.1),(.bool a.2.2)])]
theorem g43_run (a_f:Int×Int×Bool) :callFn (X g43_S) g43_tf (g43_E a_f) []=(impl_Filter_text a_f).map g43_O:=by
  rw [callFn_eq]
  simp (maxSteps:=2000000) (maxDischargeDepth:=8) -implicitDefEqProofs [g43_tf,impl_Filter_text,g43_E] <;> (try simp only [map_to_bind,some_elim,g43_O])
def g43_r:Rule:=RlO g43_E (fun a=>impl_Filter_text a) g43_O
theorem g43_ok:RuleOk Tryd.prog 64 g43_r:=ok_rlo (S:=g43_S) (tf:=g43_tf) (SysOk.on ⟨g54_ok,trivial⟩ trivial) (trE_ok (ks:=[]) Tryd.func64 (by kernel_rfl)) fun a=>g43_run a
@[simp] theorem g43_app (y0 y1 y2):g43_r [(.agg [(.int .i64 y0),(.int .i64 y1),(.bool y2)])]=(impl_Filter_text ((y0,y1,y2))).map g43_O :=
  RlO_app (enc:=g43_E) (by intro a b h;simp [g43_E,Prod.ext_iff] at h ⊢;simp [h]) ((y0,y1,y2))
/-! strings.Join -/
noncomputable def strings_Join (l:List Str) (s:Str):Option Str:=joinS l s
noncomputable def strings_Join_r:Rule:=join_r
@[simp] theorem strings_Join_app (y0 y1):strings_Join_r [.vs (rows y0),.str y1]=(strings_Join y0 y1).map (fun r=>(.str r,[])):=joinS_app y0 y1
/-! impl.pipelineText -/
def g34l1_cb:TC:=(sq [bn 12 .lss (.t 11) (.t 10)] [3,9,10,11,12] (.seq (.cond (.t 12) .skip (.keep (kp [(3,1)] [(0,1)] 0) (.exit 0))) (.trim [3,9,10,11] (.seq (.block 1 (sq [ia 13 3 9 11,ln 14 3 13,oo 5 (.alloc [(.int .i64 0),(.int .i64 0),(.bool false)]),⟨none,none,(.store 3 (.t 5) (.t 14))⟩] [3,5,9,10,11] (.ops [mo 15 3,ln 16 3 5,ca 17 64 [.t 16],oo 18 (.bslice [(.str [])] 1 [(0,(.t 17))]),oo 19 (.append 9 1 16 (.t 15) (.t 18)),mo 3 19]))) (.trim [3,9,10,11] (.after (.ops [bn 20 .add (.t 11) (ki 1),mo 11 20]) (kp [(3,1),(9,0),(10,0),(11,0)] [(3,1)] 0)))))))
def g34l1_c:TC:=.loop [3,9,10,11] g34l1_cb
def g34_tf:TFn:=⟨(sq [mk 2 (.c (.str []))] [0] (.seq (sq [mo 6 0,le 7 6,bn 8 .eql (.t 7) (ki 0)] [0,8] (.cond (.t 8) (.seq (.ops [mk 2 (.c (.str [110,111,110,101]))]) (.keep (kp [(2,0)] [] 0) .ret)) .skip)) (.trim [0] (sq [mk 3 (.c .nils)] [0,3] (.seq (sq [mo 9 0,le 10 9,mk 11 (ki 0)] [3,9,10,11] (.block 0 (.keep (kp [(3,1),(9,0),(10,0),(11,0)] [(1000,1)] 0) g34l1_c))) (.trim [3] (.seq (.ops [mo 21 3,oo 22 (.call 65 [.t 21,(.c (.str [43]))]),mo 2 22]) (.keep (kp [(2,0)] [] 0) .ret)))))))),[.t 2]⟩
abbrev g34_S:=Sys.on [(64,g43_r),(65,strings_Join_r)] []
@[reducible,simp] def g34l1_F:(List Str)→Out:=(fun t=>(.ext 0,[(3,(ow 0 t.length))],[(ob 1 t)]))
def impl_pipelineText_l1_b (v2:List (Int×Int×Bool)) (v3:Int) (v1:List Str) (v4:Int):Option ((List Str×Int) ⊕ (List Str)):=if v4 < v3 then if 0≤v4 then (v2[(v4).toNat]?).bind fun x5=>(impl_Filter_text x5).bind fun r6=>(appL 16 v1 ((lit [r6]:List Str))).bind fun l7=>some (.inl (l7,(IntKind.i64.wrap (v4+1)))) else none else some (.inr v1)
theorem g34l1_b_eq  (v2:List (Int×Int×Bool)) (v3:Int) (v1:List Str) (v4:Int):X g34_S g34l1_cb (keepEnv [3,9,10,11] [(3,(ow 0 v1.length)),(9,(.vs (rows v2))),(10,(.int .i64 v3)),(11,(.int .i64 v4))]) [(ob 1 v1)]=(impl_pipelineText_l1_b v2 v3 v1 v4).map (Sum.elim (fun s=>(TX.nrm,[(3,(ow 0 s.1.length)),(9,(.vs (rows v2))),(10,(.int .i64 v3)),(11,(.int .i64 s.2))],[(ob 1 s.1)])) g34l1_F):=by
  simp (maxSteps:=2000000) (maxDischargeDepth:=8) -implicitDefEqProofs [g34l1_cb,impl_pipelineText_l1_b,bslV_lit (α:=Str) (zs:=[(.str [])])] <;> (try simp only [map_to_bind,some_elim,g34l1_F])
def impl_pipelineText_l1 (v2:List (Int×Int×Bool)) (v3:Int) (s:List Str×Int):Option (List Str):=loopO (fun s=>impl_pipelineText_l1_b v2 v3 s.1 s.2) s
@[simp] theorem g34l1_eq (y0:List Str)(y1 y2 y3){n1:Nat}(h1:n1=y0.length):X g34_S g34l1_c [(3,(ow 0 n1)),(9,(.vs (rows y1))),(10,(.int .i64 y2)),(11,(.int .i64 y3))] [(ob 1 y0)]=(impl_pipelineText_l1 y1 y2 (y0,y3)).map g34l1_F:=by
  subst h1
  exact loop_X _ _ _ _ (by intro r;first | (simp;done) | (rcases r with r | r <;> simp;done) | (rcases r with r | r | r <;> simp;done) | (rcases r with r | r | r | r <;> simp)) (fun s=>g34l1_b_eq  y1 y2 s.1 s.2) (y0,y3)
@[simp] theorem g34l1_eq_0 (y0 y1 y2):X g34_S g34l1_c [(3,.es),(9,(.vs (rows y0))),(10,(.int .i64 y1)),(11,(.int .i64 y2))] [.dead]=(impl_pipelineText_l1 y0 y1 (([]:List Str),y2)).map g34l1_F :=
  g34l1_eq  ([]:List Str) y0 y1 y2 rfl
def impl_pipelineText (a_list:List (Int×Int×Bool)):Option (Str):=if (a_list.length:Int)=0 then some (([110,111,110,101]:Str)) else (impl_pipelineText_l1 a_list ((a_list.length:Int)) ((([]:List Str),0))).bind fun r8=>(strings_Join r8 (([43]:Str))).bind fun r9=>some r9
@[simp] def g34_O:Str→TV×List Blk:=fun r=>((.str r),[])
def g34_E (a:(List (Int×Int×Bool))):List TV:=[(.vs (rows a))]
theorem g34_run (a_list:List (Int×Int×Bool)) :callFn (X g34_S) g34_tf (g34_E a_list) []=(impl_pipelineText a_list).map g34_O:=by
  rw [callFn_eq]
  simp (maxSteps:=2000000) (maxDischargeDepth:=8) -implicitDefEqProofs [g34_tf,impl_pipelineText,g34_E,bslV_lit (α:=Str) (zs:=[(.str [])])] <;> (try simp only [map_to_bind,some_elim,g34_O])
def g34_r:Rule:=RlO g34_E (fun a=>impl_pipelineText a) g34_O
theorem g34_ok:RuleOk Tryd.prog 29 g34_r:=ok_rlo (S:=g34_S) (tf:=g34_tf) (SysOk.on ⟨g43_ok,strings_Join_ok,trivial⟩ trivial) (trE_ok (ks:=[[3,9,10,11]]) Tryd.func29 (by kernel_rfl)) fun a=>g34_run a
@[simp] theorem g34_app (y0):g34_r [(.vs (rows y0))]=(impl_pipelineText y0).map g34_O :=
  RlO_app (enc:=g34_E) (by intro a b h;simp [g34_E,Prod.ext_iff] at h ⊢;simp [h]) y0
/-! impl.PipelineText -/
def g35_tf:TFn:=⟨(sq [mk 2 (.c (.str []))] [0] (.seq (sq [mo 3 0,ca 4 11 [.t 3],nt 5 4] [0,5] (.cond (.t 5) (.seq (.ops [mk 2 (.c (.str []))]) (.keep (kp [(2,0)] [] 0) .ret)) .skip)) (.trim [0] (.seq (.ops [mo 6 0,ca 7 29 [.t 6],mo 2 7]) (.keep (kp [(2,0)] [] 0) .ret))))),[.t 2]⟩
abbrev g35_S:=Sys.on [(11,g31_r),(29,g34_r)] []
def impl_PipelineText (a_list:List (Int×Int×Bool)):Option (Str):=(impl_ValidPipeline a_list).bind fun r1=>if ¬(r1=true) then some (([]:Str)) else (impl_pipelineText a_list).bind fun r2=>some r2
@[simp] def g35_O:Str→TV×List Blk:=fun r=>((.str r),[])
def g35_E (a:(List (Int×Int×Bool))):List TV:=[(.vs (rows a))]
theorem g35_run (a_list:List (Int×Int×Bool)) :callFn (X g35_S) g35_tf (g35_E a_list) []=(impl_PipelineText a_list).map g35_O:=by
  rw [callFn_eq]
  simp (maxSteps:=2000000) (maxDischargeDepth:=8) -implicitDefEqProofs [g35_tf,impl_PipelineText,g35_E] <;> (try simp only [map_to_bind,some_elim,g35_O])
def g35_r:Rule:=RlO g35_E (fun a=>impl_PipelineText a) g35_O
theorem g35_ok:RuleOk Tryd.prog 9 g35_r:=ok_rlo (S:=g35_S) (tf:=g35_tf) (SysOk.on ⟨g31_ok,g34_ok,trivial⟩ trivial) (trE_ok (ks:=[]) Tryd.func9 (by kernel_rfl)) fun a=>g35_run a
@[simp] theorem g35_app (y0):g35_r [(.vs (rows y0))]=(impl_PipelineText y0).map g35_O :=
  RlO_app (enc:=g35_E) (by intro a b h;simp [g35_E,Prod.ext_iff] at h ⊢;simp [h]) y0
/-! impl.isDigit -/
def g56_tf:TFn:=⟨(sq [mk 2 (kb false)] [0] (.seq (.after (.ops [mo 3 0,oo 4 (.bin .num .geq (.t 3) (.c (.int .u8 48))),mo 5 4,⟨(some 6),(some (5,true)),(.mv (.t 0))⟩,⟨(some 7),(some (5,true)),(.bin .num .leq (.t 6) (.c (.int .u8 57)))⟩,pk 8 (.t 5) (.t 7) (kb false),mo 2 8]) (kp [(2,0)] [] 0)) (.keep (kp [(2,0)] [] 0) .ret))),[.t 2]⟩
abbrev g56_S:=Sys.on [] []
def impl_isDigit (a_c:Int):Option (Bool):=if a_c ≥ 48 then some ((decide (a_c≤57))) else some false
@[simp] def g56_O:Bool→TV×List Blk:=fun r=>((.bool r),[])
def g56_E (a:Int):List TV:=[(.int .u8 a)]
theorem g56_run (a_c:Int) :callFn (X g56_S) g56_tf (g56_E a_c) []=(impl_isDigit a_c).map g56_O:=by
  rw [callFn_eq]
  simp (maxSteps:=2000000) (maxDischargeDepth:=8) -implicitDefEqProofs [g56_tf,impl_isDigit,g56_E] <;> (try simp only [map_to_bind,some_elim,g56_O])
def g56_r:Rule:=RlO g56_E (fun a=>impl_isDigit a) g56_O
theorem g56_ok:RuleOk Tryd.prog 98 g56_r:=ok_rlo (S:=g56_S) (tf:=g56_tf) (SysOk.on trivial trivial) (trE_ok (ks:=[]) Tryd.func98 (by kernel_rfl)) fun a=>g56_run a
@[simp] theorem g56_app (y0):g56_r [(.int .u8 y0)]=(impl_isDigit y0).map g56_O :=
  RlO_app (enc:=g56_E) (by intro a b h;simp [g56_E,Prod.ext_iff] at h ⊢;simp [h]) y0
/-! (*impl.scanner).word.1 -/
def g23_tf:TFn:=⟨(sq [mk 2 (kb false)] [0] (.seq (.after (.ops [mo 3 0,oo 4 (.bin .num .geq (.t 3) (.c (.int .u8 65))),mo 5 4,⟨(some 6),(some (5,true)),(.mv (.t 0))⟩,⟨(some 7),(some (5,true)),(.bin .num .leq (.t 6) (.c (.int .u8 90)))⟩,pk 8 (.t 5) (.t 7) (kb false),mo 9 8,⟨(some 10),(some (9,false)),(.mv (.t 0))⟩,⟨(some 11),(some (9,false)),(.bin .num .geq (.t 10) (.c (.int .u8 97)))⟩,⟨(some 12),(some (9,false)),(.mv (.t 11))⟩,⟨(some 13),(some (12,true)),(.mv (.t 0))⟩,⟨(some 14),(some (12,true)),(.bin .num .leq (.t 13) (.c (.int .u8 122)))⟩,⟨(some 15),(some (9,false)),(.pick (.t 12) (.t 14) (kb false))⟩,pk 16 (.t 9) (kb true) (.t 15),mo 17 16,⟨(some 18),(some (17,false)),(.mv (.t 0))⟩,⟨(some 19),(some (17,false)),(.call 98 [.t 18])⟩,pk 20 (.t 17) (kb true) (.t 19),mo 21 20,⟨(some 22),(some (21,false)),(.mv (.t 0))⟩,⟨(some 23),(some (21,false)),(.bin .num .eql (.t 22) (.c (.int .u8 95)))⟩,pk 24 (.t 21) (kb true) (.t 23),mo 2 24]) (kp [(2,0)] [] 0)) (.keep (kp [(2,0)] [] 0) .ret))),[.t 2]⟩
abbrev g23_S:=Sys.on [(98,g56_r)] []
def impl_scanner_word_c1 (a_c:Int):Option (Bool):=if a_c ≥ 65 then if a_c≤90 then some true else if a_c ≥ 97 then if a_c≤122 then some true else (impl_isDigit a_c).bind fun r1=>if r1=true then some true else some ((decide (a_c=95))) else (impl_isDigit a_c).bind fun r2=>if r2=true then some true else some ((decide (a_c=95))) else if a_c ≥ 97 then if a_c≤122 then some true else (impl_isDigit a_c).bind fun r3=>if r3=true then some true else some ((decide (a_c=95))) else (impl_isDigit a_c).bind fun r4=>if r4=true then some true else some ((decide (a_c=95)))
@[simp] def g23_O:Bool→TV×List Blk:=fun r=>((.bool r),[])
def g23_E (a:Int):List TV:=[(.int .u8 a)]
theorem g23_run (a_c:Int) :callFn (X g23_S) g23_tf (g23_E a_c) []=(impl_scanner_word_c1 a_c).map g23_O:=by
  rw [callFn_eq]
  simp (maxSteps:=2000000) (maxDischargeDepth:=8) -implicitDefEqProofs [g23_tf,impl_scanner_word_c1,g23_E] <;> (try simp only [map_to_bind,some_elim,g23_O])
def g23_r:Rule:=RlO g23_E (fun a=>impl_scanner_word_c1 a) g23_O
theorem g23_ok:RuleOk Tryd.prog 97 g23_r:=ok_rlo (S:=g23_S) (tf:=g23_tf) (SysOk.on ⟨g56_ok,trivial⟩ trivial) (trE_ok (ks:=[]) Tryd.func97 (by kernel_rfl)) fun a=>g23_run a
@[simp] theorem g23_app (y0):g23_r [(.int .u8 y0)]=(impl_scanner_word_c1 y0).map g23_O :=
  RlO_app (enc:=g23_E) (by intro a b h;simp [g23_E,Prod.ext_iff] at h ⊢;simp [h]) y0
/-! (*impl.scanner).while -/
def g12l1_cb:TC:=(.seq (sq [mo 7 5,mo 8 0,nk 9 8,fa 10 0 9,ld 11 10,oo 12 (.len true (.t 11)),bn 13 .lss (.t 7) (.t 12),mo 14 13,⟨(some 15),(some (14,true)),(.mv (.t 1))⟩,⟨(some 16),(some (14,true)),(.mv (.t 0))⟩,⟨(some 17),(some (14,true)),(.nilchk (.t 16))⟩,⟨(some 18),(some (14,true)),(.faddr 0 (.t 17))⟩,⟨(some 19),(some (14,true)),(.load none (.t 18))⟩,⟨(some 20),(some (14,true)),(.mv (.t 5))⟩,⟨(some 21),(some (14,true)),(.index (.t 19) (.t 20))⟩,⟨(some 22),(some (14,true)),(.callv (.t 15) [.t 21])⟩,pk 23 (.t 14) (.t 22) (kb false)] [0,1,5,23] (.cond (.t 23) .skip (.keep (kp [(0,0),(5,0)] [(0,0)] 1) (.exit 0)))) (.trim [0,1,5] (.block 1 (.after (.ops [mo 24 5,bn 25 .add (.t 24) (ki 1),mo 5 25]) (kp [(0,0),(1,0),(5,0)] [(0,0)] 1)))))
def g12l1_c:TC:=.loop [0,1,5] g12l1_cb
def g12_tf:TFn:=⟨(sq [mk 4 (.c (.str []))] [0,1] (sq [mk 5 (ki 0)] [0,1,5] (.seq (.block 0 (.keep (kp [(0,0),(1,0),(5,0)] [(0,0)] 1) g12l1_c)) (.trim [0,5] (sq [mo 26 0,nk 27 26,fa 28 0 27,ld 29 28,mo 30 5,oo 31 (.sliceS (.t 29) none (some (.t 30))),mo 6 31] [0,5,6] (sq [mo 32 0,mo 33 0,nk 34 33,fa 35 0 34,ld 36 35,mo 37 5,oo 38 (.sliceS (.t 36) (some (.t 37)) none),nk 39 32,fa 40 0 39,⟨none,none,(.store 1 (.t 40) (.t 38))⟩] [6] (.seq (.ops [mo 41 6,mo 4 41]) (.keep (kp [(4,0)] [(0,0)] 1) .ret)))))))),[.t 4]⟩
abbrev g12_S:=Sys.on [(97,g23_r)] []
@[reducible,simp] def g12l1_F:((Str×Bool)×Int)→Out:=(fun t=>(.ext 0,[(0,(.ptr 0 0 0)),(5,(.int .i64 t.2))],[(.live 2 [[(.str t.1.1),(.bool t.1.2)]])]))
def impl_scanner_while_o1f_l1_b (v1:Str×Bool) (v2:Int):Option ((Int) ⊕ ((Str×Bool)×Int)):=if v2 < (v1.1.length:Int) then if 0≤v2 then (v1.1[(v2).toNat]?).bind fun (b3:UInt8)=>(impl_scanner_word_c1 ((b3.toNat:Int))).bind fun r4=>if r4=true then some (.inl ((IntKind.i64.wrap (v2+1)))) else some (.inr (v1,v2)) else none else some (.inr (v1,v2))
theorem g12l1_b_eq  (v1:Str×Bool) (v2:Int):X g12_S g12l1_cb (keepEnv [0,1,5] [(0,(.ptr 0 0 0)),(1,(.fn 97 [] [])),(5,(.int .i64 v2))]) [(.live 2 [[(.str v1.1),(.bool v1.2)]])]=(impl_scanner_while_o1f_l1_b v1 v2).map (Sum.elim (fun s=>(TX.nrm,[(0,(.ptr 0 0 0)),(1,(.fn 97 [] [])),(5,(.int .i64 s))],[(.live 2 [[(.str v1.1),(.bool v1.2)]])])) g12l1_F):=by
  simp (maxSteps:=2000000) (maxDischargeDepth:=8) -implicitDefEqProofs [g12l1_cb,impl_scanner_while_o1f_l1_b] <;> (try simp only [map_to_bind,some_elim,g12l1_F])
def impl_scanner_while_o1f_l1 (v1:Str×Bool) (s:Int):Option ((Str×Bool)×Int):=loopO (fun s=>impl_scanner_while_o1f_l1_b v1 s) s
@[simp] theorem g12l1_eq (y0 y1 y2):X g12_S g12l1_c [(0,(.ptr 0 0 0)),(1,(.fn 97 [] [])),(5,(.int .i64 y2))] [(.live 2 [[(.str y0),(.bool y1)]])]=(impl_scanner_while_o1f_l1 ((y0,y1)) y2).map g12l1_F:=by
  exact loop_X _ _ _ _ (by intro r;first | (simp;done) | (rcases r with r | r <;> simp;done) | (rcases r with r | r | r <;> simp;done) | (rcases r with r | r | r | r <;> simp)) (fun s=>g12l1_b_eq  ((y0,y1)) s) y2
def impl_scanner_while_o1f (a1:Str×Bool):Option ((Str×Bool)×Str):=(impl_scanner_while_o1f_l1 a1 0).bind fun r5=>(subL r5.1.1 none (some r5.2)).bind fun s6=>(subL r5.1.1 (some r5.2) none).bind fun s7=>some ((s7,r5.1.2),s6)
@[simp] def g12_O:((Str×Bool)×Str)→TV×List Blk:=fun r=>((.str r.2),[(.live 2 [[(.str r.1.1),(.bool r.1.2)]])])
abbrev g12_T:=(Str×Bool)
def g12_E (a:g12_T):List TV:=[(.ptr 0 0 0),(.fn 97 [] [])]
def g12_B (a:g12_T):List Blk:=[(.live 2 [[(.str a.1),(.bool a.2)]])]
theorem g12_run (a1:Str×Bool) :callFn (X g12_S) g12_tf (g12_E a1) (g12_B a1)=(impl_scanner_while_o1f a1).map g12_O:=by
  rw [callFn_eq]
  simp (maxSteps:=2000000) (maxDischargeDepth:=8) -implicitDefEqProofs [g12_tf,impl_scanner_while_o1f,g12_E,g12_B] <;> (try simp only [map_to_bind,some_elim,g12_O])
def g12_r:MRule:=RmO g12_E g12_B (fun a=>impl_scanner_while_o1f a) g12_O
theorem g12_ok:MRuleOk Tryd.prog 96 1 g12_r:=ok_rmo (S:=g12_S) (tf:=g12_tf) (SysOk.on ⟨g23_ok,trivial⟩ trivial) (trE_ok (ks:=[[0,1,5]]) Tryd.func96 (by kernel_rfl)) (by rfl) (fun _=>by simp [g12_B]) (fun _=>by simp) fun a=>g12_run a
@[simp] theorem g12_app (y0 y1):g12_r [(.ptr 0 0 0),(.fn 97 [] [])] [(.live 2 [[(.str y0),(.bool y1)]])]=(impl_scanner_while_o1f ((y0,y1))).map g12_O:=by
  exact RmO_app (enc:=g12_E) (encB:=g12_B) (by intro a b h h2;simp [g12_E,g12_B,Prod.ext_iff] at h h2 ⊢;simp [h,h2]) ((y0,y1))
/-! (*impl.scanner).word -/
def g19_tf:TFn:=⟨(sq [mk 2 (.c (.str []))] [0] (.seq (.ops [mo 3 0,oo 4 (.callM 96 0 [0] [.t 3,(.c (.fn 97 [] []))]),mo 2 4]) (.keep (kp [(2,0)] [(0,0)] 1) .ret))),[.t 2]⟩
abbrev g19_S:=Sys.on [] [((96,0),(1,g12_r))]
def impl_scanner_word_od0 (a1:Str×Bool):Option ((Str×Bool)×Str):=(impl_scanner_while_o1f a1).bind fun r1=>some (r1.1,r1.2)
@[simp] def g19_O:((Str×Bool)×Str)→TV×List Blk:=fun r=>((.str r.2),[(.live 2 [[(.str r.1.1),(.bool r.1.2)]])])
abbrev g19_T:=(Str×Bool)
def g19_E (a:g19_T):List TV:=[(.ptr 0 0 0)]
def g19_B (a:g19_T):List Blk:=[(.live 2 [[(.str a.1),(.bool a.2)]])]
theorem g19_run (a1:Str×Bool) :callFn (X g19_S) g19_tf (g19_E a1) (g19_B a1)=(impl_scanner_word_od0 a1).map g19_O:=by
  rw [callFn_eq]
  simp (maxSteps:=2000000) (maxDischargeDepth:=8) -implicitDefEqProofs [g19_tf,impl_scanner_word_od0,g19_E,g19_B] <;> (try simp only [map_to_bind,some_elim,g19_O])
def g19_r:MRule:=RmO g19_E g19_B (fun a=>impl_scanner_word_od0 a) g19_O
theorem g19_ok:MRuleOk Tryd.prog 60 1 g19_r:=ok_rmo (S:=g19_S) (tf:=g19_tf) (SysOk.on trivial ⟨g12_ok,trivial⟩) (trE_ok (ks:=[]) Tryd.func60 (by kernel_rfl)) (by rfl) (fun _=>by simp [g19_B]) (fun _=>by simp) fun a=>g19_run a
@[simp] theorem g19_app (y0 y1):g19_r [(.ptr 0 0 0)] [(.live 2 [[(.str y0),(.bool y1)]])]=(impl_scanner_word_od0 ((y0,y1))).map g19_O:=by
  exact RmO_app (enc:=g19_E) (encB:=g19_B) (by intro a b h h2;simp [g19_E,g19_B,Prod.ext_iff] at h h2 ⊢;simp [h,h2]) ((y0,y1))
/-! slices.Index[[]string,string] -/
def g5l1_cb:TC:=(sq [bn 9 .lss (.t 8) (.t 7)] [0,1,7,8,9] (.seq (.cond (.t 9) .skip (.keep (kp [] [] 0) (.exit 0))) (.trim [0,1,7,8] (.seq (.block 1 (sq [mo 10 8,mo 5 10] [0,1,5,7,8] (sq [mo 11 1,mo 12 0,mo 13 5,ia 14 1 12 13,ld 15 14,oo 16 (.bin .str .eql (.t 11) (.t 15))] [0,1,5,7,8,16] (.cond (.t 16) (.seq (.ops [mo 17 5,mo 4 17]) (.keep (kp [(4,0)] [] 0) .ret)) .skip)))) (.trim [0,1,7,8] (.after (.ops [bn 18 .add (.t 8) (ki 1),mo 8 18]) (kp [(0,0),(1,0),(7,0),(8,0)] [] 0)))))))
def g5l1_c:TC:=.loop [0,1,7,8] g5l1_cb
def g5_tf:TFn:=⟨(sq [mk 4 (ki 0)] [0,1] (.seq (sq [mo 6 0,le 7 6,mk 8 (ki 0)] [0,1,7,8] (.block 0 (.keep (kp [(0,0),(1,0),(7,0),(8,0)] [] 0) g5l1_c))) (.trim [] (.seq (.ops [mk 4 (ki (-1))]) (.keep (kp [(4,0)] [] 0) .ret))))),[.t 4]⟩
abbrev g5_S:=Sys.on [] []
@[reducible,simp] def g5l1_F:((Unit) ⊕ (Int))→Out:=(Sum.elim (fun t=>(.ext 0,[],[])) (fun t=>(.ret,[(4,(.int .i64 t))],[])))
def slices_Index_string_string__l1_b (v1:List Str) (v2:Str) (v3:Int) (v4:Int):Option ((Int) ⊕ ((Unit) ⊕ (Int))):=if v4 < v3 then if 0≤v4 then (v1[(v4).toNat]?).bind fun x5=>if v2=x5 then some (.inr (.inr v4)) else some (.inl ((IntKind.i64.wrap (v4+1)))) else none else some (.inr (.inl ()))
theorem g5l1_b_eq  (v1:List Str) (v2:Str) (v3:Int) (v4:Int):X g5_S g5l1_cb (keepEnv [0,1,7,8] [(0,(.vs (rows v1))),(1,(.str v2)),(7,(.int .i64 v3)),(8,(.int .i64 v4))]) []=(slices_Index_string_string__l1_b v1 v2 v3 v4).map (Sum.elim (fun s=>(TX.nrm,[(0,(.vs (rows v1))),(1,(.str v2)),(7,(.int .i64 v3)),(8,(.int .i64 s))],[])) g5l1_F):=by
  simp (maxSteps:=2000000) (maxDischargeDepth:=8) -implicitDefEqProofs [g5l1_cb,slices_Index_string_string__l1_b] <;> (try simp only [map_to_bind,some_elim,g5l1_F])
def slices_Index_string_string__l1 (v1:List Str) (v2:Str) (v3:Int) (s:Int):Option ((Unit) ⊕ (Int)):=loopO (fun s=>slices_Index_string_string__l1_b v1 v2 v3 s) s
@[simp] theorem g5l1_eq (y0 y1 y2 y3):X g5_S g5l1_c [(0,(.vs (rows y0))),(1,(.str y1)),(7,(.int .i64 y2)),(8,(.int .i64 y3))] []=(slices_Index_string_string__l1 y0 y1 y2 y3).map g5l1_F:=by
  exact loop_X _ _ _ _ (by intro r;first | (simp;done) | (rcases r with r | r <;> simp;done) | (rcases r with r | r | r <;> simp;done) | (rcases r with r | r | r | r <;> simp)) (fun s=>g5l1_b_eq  y0 y1 y2 s) y3
def slices_Index_string_string_ (a_s:List Str) (a_v:Str):Option (Int):=(slices_Index_string_string__l1 a_s a_v ((a_s.length:Int)) 0).bind fun r6=>Sum.elim (fun u7=>some ((-1))) (fun u8=>some u8) r6
@[simp] def g5_O:Int→TV×List Blk:=fun r=>((.int .i64 r),[])
def g5_E (a:List Str×Str):List TV:=[(.vs (rows a.1)),(.str a.2)]
theorem g5_run (a_s:List Str) (a_v:Str) :callFn (X g5_S) g5_tf (g5_E (a_s,a_v)) []=(slices_Index_string_string_ a_s a_v).map g5_O:=by
  rw [callFn_eq]
  simp (maxSteps:=2000000) (maxDischargeDepth:=8) -implicitDefEqProofs [g5_tf,slices_Index_string_string_,g5_E] <;> (try simp only [map_to_bind,some_elim,g5_O])
def g5_r:Rule:=RlO g5_E (fun a=>slices_Index_string_string_ a.1 a.2) g5_O
theorem g5_ok:RuleOk Tryd.prog 59 g5_r:=ok_rlo (S:=g5_S) (tf:=g5_tf) (SysOk.on trivial trivial) (trE_ok (ks:=[[0,1,7,8]]) Tryd.func59 (by kernel_rfl)) fun a=>g5_run a.1 a.2
@[simp] theorem g5_app (y0 y1):g5_r [(.vs (rows y0)),(.str y1)]=(slices_Index_string_string_ y0 y1).map g5_O :=
  RlO_app (enc:=g5_E) (by intro a b h;simp [g5_E,Prod.ext_iff] at h ⊢;simp [h]) (y0,y1)
/-! internal/stringslite.HasPrefix -/
def g3_tf:TFn:=⟨(sq [mk 4 (kb false)] [0,1] (.seq (.after (.ops [mo 5 0,oo 6 (.len true (.t 5)),mo 7 1,oo 8 (.len true (.t 7)),bn 9 .geq (.t 6) (.t 8),mo 10 9,⟨(some 11),(some (10,true)),(.mv (.t 0))⟩,⟨(some 12),(some (10,true)),(.mv (.t 1))⟩,⟨(some 13),(some (10,true)),(.len true (.t 12))⟩,⟨(some 14),(some (10,true)),(.sliceS (.t 11) none (some (.t 13)))⟩,⟨(some 15),(some (10,true)),(.mv (.t 1))⟩,⟨(some 16),(some (10,true)),(.bin .str .eql (.t 14) (.t 15))⟩,pk 17 (.t 10) (.t 16) (kb false),mo 4 17]) (kp [(4,0)] [] 0)) (.keep (kp [(4,0)] [] 0) .ret))),[.t 4]⟩
abbrev g3_S:=Sys.on [] []
def internal_stringslite_HasPrefix (a_s:Str) (a_prefix:Str):Option (Bool):=if (a_s.length:Int) ≥ (a_prefix.length:Int) then (subL a_s none (some ((a_prefix.length:Int)))).bind fun s1=>some ((decide (s1=a_prefix))) else some false
@[simp] def g3_O:Bool→TV×List Blk:=fun r=>((.bool r),[])
def g3_E (a:Str×Str):List TV:=[(.str a.1),(.str a.2)]
theorem g3_run (a_s:Str) (a_prefix:Str) :callFn (X g3_S) g3_tf (g3_E (a_s,a_prefix)) []=(internal_stringslite_HasPrefix a_s a_prefix).map g3_O:=by
  rw [callFn_eq]
  simp (maxSteps:=2000000) (maxDischargeDepth:=8) -implicitDefEqProofs [g3_tf,internal_stringslite_HasPrefix,g3_E] <;> (try simp only [map_to_bind,some_elim,g3_O])
def g3_r:Rule:=RlO g3_E (fun a=>internal_stringslite_HasPrefix a.1 a.2) g3_O
theorem g3_ok:RuleOk Tryd.prog 114 g3_r:=ok_rlo (S:=g3_S) (tf:=g3_tf) (SysOk.on trivial trivial) (trE_ok (ks:=[]) Tryd.func114 (by kernel_rfl)) fun a=>g3_run a.1 a.2
@[simp] theorem g3_app (y0 y1):g3_r [(.str y0),(.str y1)]=(internal_stringslite_HasPrefix y0 y1).map g3_O :=
  RlO_app (enc:=g3_E) (by intro a b h;simp [g3_E,Prod.ext_iff] at h ⊢;simp [h]) (y0,y1)
/-! internal/stringslite.CutPrefix -/
def g4_tf:TFn:=⟨(sq [mk 4 (.c (.str [])),mk 5 (kb false)] [0,1] (.seq (sq [mo 6 0,mo 7 1,ca 8 114 [.t 6,.t 7],nt 9 8] [0,1,9] (.cond (.t 9) (.seq (.ops [mo 10 0,mo 4 10,mk 5 (kb false)]) (.keep (kp [(4,0),(5,0)] [] 0) .ret)) .skip)) (.trim [0,1] (.seq (.ops [mo 11 0,mo 12 1,oo 13 (.len true (.t 12)),oo 14 (.sliceS (.t 11) (some (.t 13)) none),mo 4 14,mk 5 (kb true)]) (.keep (kp [(4,0),(5,0)] [] 0) .ret))))),[.t 4,.t 5]⟩
abbrev g4_S:=Sys.on [(114,g3_r)] []
def internal_stringslite_CutPrefix (a_s:Str) (a_prefix:Str):Option (Str×Bool):=(internal_stringslite_HasPrefix a_s a_prefix).bind fun r1=>if ¬(r1=true) then some (a_s,false) else (subL a_s (some ((a_prefix.length:Int))) none).bind fun s2=>some (s2,true)
@[simp] def g4_O:(Str×Bool)→TV×List Blk:=fun r=>((.tup [(.str r.1),(.bool r.2)]),[])
def g4_E (a:Str×Str):List TV:=[(.str a.1),(.str a.2)]
theorem g4_run (a_s:Str) (a_prefix:Str) :callFn (X g4_S) g4_tf (g4_E (a_s,a_prefix)) []=(internal_stringslite_CutPrefix a_s a_prefix).map g4_O:=by
  rw [callFn_eq]
  simp (maxSteps:=2000000) (maxDischargeDepth:=8) -implicitDefEqProofs [g4_tf,internal_stringslite_CutPrefix,g4_E] <;> (try simp only [map_to_bind,some_elim,g4_O])
def g4_r:Rule:=RlO g4_E (fun a=>internal_stringslite_CutPrefix a.1 a.2) g4_O
theorem g4_ok:RuleOk Tryd.prog 101 g4_r:=ok_rlo (S:=g4_S) (tf:=g4_tf) (SysOk.on ⟨g3_ok,trivial⟩ trivial) (trE_ok (ks:=[]) Tryd.func101 (by kernel_rfl)) fun a=>g4_run a.1 a.2
@[simp] theorem g4_app (y0 y1):g4_r [(.str y0),(.str y1)]=(internal_stringslite_CutPrefix y0 y1).map g4_O :=
  RlO_app (enc:=g4_E) (by intro a b h;simp [g4_E,Prod.ext_iff] at h ⊢;simp [h]) (y0,y1)
/-! strings.CutPrefix -/
def g36_tf:TFn:=⟨(sq [mk 4 (.c (.str [])),mk 5 (kb false)] [0,1] (.seq (.ops [mo 6 0,mo 7 1,ca 8 101 [.t 6,.t 7],oo 9 (.ext (.t 8) 0),oo 10 (.ext (.t 8) 1),mo 4 9,mo 5 10]) (.keep (kp [(4,0),(5,0)] [] 0) .ret))),[.t 4,.t 5]⟩
abbrev g36_S:=Sys.on [(101,g4_r)] []
def strings_CutPrefix (a_s:Str) (a_prefix:Str):Option (Str×Bool):=(internal_stringslite_CutPrefix a_s a_prefix).bind fun r1=>some (r1.1,r1.2)
@[simp] def g36_O:(Str×Bool)→TV×List Blk:=fun r=>((.tup [(.str r.1),(.bool r.2)]),[])
def g36_E (a:Str×Str):List TV:=[(.str a.1),(.str a.2)]
theorem g36_run (a_s:Str) (a_prefix:Str) :callFn (X g36_S) g36_tf (g36_E (a_s,a_prefix)) []=(strings_CutPrefix a_s a_prefix).map g36_O:=by
  rw [callFn_eq]
  simp (maxSteps:=2000000) (maxDischargeDepth:=8) -implicitDefEqProofs [g36_tf,strings_CutPrefix,g36_E] <;> (try simp only [map_to_bind,some_elim,g36_O])
def g36_r:Rule:=RlO g36_E (fun a=>strings_CutPrefix a.1 a.2) g36_O
theorem g36_ok:RuleOk Tryd.prog 63 g36_r:=ok_rlo (S:=g36_S) (tf:=g36_tf) (SysOk.on ⟨g4_ok,trivial⟩ trivial) (trE_ok (ks:=[]) Tryd.func63 (by kernel_rfl)) fun a=>g36_run a.1 a.2
@[simp] theorem g36_app (y0 y1):g36_r [(.str y0),(.str y1)]=(strings_CutPrefix y0 y1).map g36_O :=
  RlO_app (enc:=g36_E) (by intro a b h;simp [g36_E,Prod.ext_iff] at h ⊢;simp [h]) (y0,y1)
/-! (*impl.scanner).accept -/
def g7_tf:TFn:=⟨(sq [mk 4 (kb false)] [0,1] (sq [mo 8 0,nk 9 8,fa 10 0 9,ld 11 10,mo 12 1,ca 13 63 [.t 11,.t 12],mo 7 13,oo 14 (.ext (.t 7) 0),oo 15 (.ext (.t 7) 1),mo 5 14,mo 6 15] [0,5,6] (sq [mo 16 0,mo 17 5,nk 18 16,fa 19 0 18,⟨none,none,(.store 1 (.t 19) (.t 17))⟩] [6] (.seq (.ops [mo 20 6,mo 4 20]) (.keep (kp [(4,0)] [(0,0)] 1) .ret))))),[.t 4]⟩
abbrev g7_S:=Sys.on [(63,g36_r)] []
def impl_scanner_accept_o0b (a1:Str×Bool) (a2:Str):Option ((Str×Bool)×Bool):=(strings_CutPrefix a1.1 a2).bind fun r1=>some ((r1.1,a1.2),r1.2)
@[simp] def g7_O:((Str×Bool)×Bool)→TV×List Blk:=fun r=>((.bool r.2),[(.live 2 [[(.str r.1.1),(.bool r.1.2)]])])
abbrev g7_T:=(Str×Bool)×Str
def g7_E (a:g7_T):List TV:=[(.ptr 0 0 0),(.str a.2)]
def g7_B (a:g7_T):List Blk:=[(.live 2 [[(.str a.1.1),(.bool a.1.2)]])]
theorem g7_run (a1:Str×Bool) (a2:Str) :callFn (X g7_S) g7_tf (g7_E (a1,a2)) (g7_B (a1,a2))=(impl_scanner_accept_o0b a1 a2).map g7_O:=by
  rw [callFn_eq]
  simp (maxSteps:=2000000) (maxDischargeDepth:=8) -implicitDefEqProofs [g7_tf,impl_scanner_accept_o0b,g7_E,g7_B] <;> (try simp only [map_to_bind,some_elim,g7_O])
def g7_r:MRule:=RmO g7_E g7_B (fun a=>impl_scanner_accept_o0b a.1 a.2) g7_O
theorem g7_ok:MRuleOk Tryd.prog 28 1 g7_r:=ok_rmo (S:=g7_S) (tf:=g7_tf) (SysOk.on ⟨g36_ok,trivial⟩ trivial) (trE_ok (ks:=[]) Tryd.func28 (by kernel_rfl)) (by rfl) (fun _=>by simp [g7_B]) (fun _=>by simp) fun a=>g7_run a.1 a.2
@[simp] theorem g7_app (y0 y1 y2):g7_r [(.ptr 0 0 0),(.str y2)] [(.live 2 [[(.str y0),(.bool y1)]])]=(impl_scanner_accept_o0b ((y0,y1)) y2).map g7_O:=by
  exact RmO_app (enc:=g7_E) (encB:=g7_B) (by intro a b h h2;simp [g7_E,g7_B,Prod.ext_iff] at h h2 ⊢;simp [h,h2]) ((y0,y1),y2)
/-! (*impl.scanner).number.1 -/
def g13_tf:TFn:=⟨(sq [mk 2 (kb false)] [0] (.seq (.after (.ops [mo 3 0,ca 4 98 [.t 3],mo 5 4,⟨(some 6),(some (5,false)),(.mv (.t 0))⟩,⟨(some 7),(some (5,false)),(.bin .num .eql (.t 6) (.c (.int .u8 45)))⟩,pk 8 (.t 5) (kb true) (.t 7),mo 2 8]) (kp [(2,0)] [] 0)) (.keep (kp [(2,0)] [] 0) .ret))),[.t 2]⟩
abbrev g13_S:=Sys.on [(98,g56_r)] []
def impl_scanner_number_c1 (a_c:Int):Option (Bool):=(impl_isDigit a_c).bind fun r1=>if r1=true then some true else some ((decide (a_c=45)))
@[simp] def g13_O:Bool→TV×List Blk:=fun r=>((.bool r),[])
def g13_E (a:Int):List TV:=[(.int .u8 a)]
theorem g13_run (a_c:Int) :callFn (X g13_S) g13_tf (g13_E a_c) []=(impl_scanner_number_c1 a_c).map g13_O:=by
  rw [callFn_eq]
  simp (maxSteps:=2000000) (maxDischargeDepth:=8) -implicitDefEqProofs [g13_tf,impl_scanner_number_c1,g13_E] <;> (try simp only [map_to_bind,some_elim,g13_O])
def g13_r:Rule:=RlO g13_E (fun a=>impl_scanner_number_c1 a) g13_O
theorem g13_ok:RuleOk Tryd.prog 100 g13_r:=ok_rlo (S:=g13_S) (tf:=g13_tf) (SysOk.on ⟨g56_ok,trivial⟩ trivial) (trE_ok (ks:=[]) Tryd.func100 (by kernel_rfl)) fun a=>g13_run a
@[simp] theorem g13_app (y0):g13_r [(.int .u8 y0)]=(impl_scanner_number_c1 y0).map g13_O :=
  RlO_app (enc:=g13_E) (by intro a b h;simp [g13_E,Prod.ext_iff] at h ⊢;simp [h]) y0
/-! (*impl.scanner).while -/
def g14l1_cb:TC:=(.seq (sq [mo 7 5,mo 8 0,nk 9 8,fa 10 0 9,ld 11 10,oo 12 (.len true (.t 11)),bn 13 .lss (.t 7) (.t 12),mo 14 13,⟨(some 15),(some (14,true)),(.mv (.t 1))⟩,⟨(some 16),(some (14,true)),(.mv (.t 0))⟩,⟨(some 17),(some (14,true)),(.nilchk (.t 16))⟩,⟨(some 18),(some (14,true)),(.faddr 0 (.t 17))⟩,⟨(some 19),(some (14,true)),(.load none (.t 18))⟩,⟨(some 20),(some (14,true)),(.mv (.t 5))⟩,⟨(some 21),(some (14,true)),(.index (.t 19) (.t 20))⟩,⟨(some 22),(some (14,true)),(.callv (.t 15) [.t 21])⟩,pk 23 (.t 14) (.t 22) (kb false)] [0,1,5,23] (.cond (.t 23) .skip (.keep (kp [(0,0),(5,0)] [(0,0)] 1) (.exit 0)))) (.trim [0,1,5] (.block 1 (.after (.ops [mo 24 5,bn 25 .add (.t 24) (ki 1),mo 5 25]) (kp [(0,0),(1,0),(5,0)] [(0,0)] 1)))))
def g14l1_c:TC:=.loop [0,1,5] g14l1_cb
def g14_tf:TFn:=⟨(sq [mk 4 (.c (.str []))] [0,1] (sq [mk 5 (ki 0)] [0,1,5] (.seq (.block 0 (.keep (kp [(0,0),(1,0),(5,0)] [(0,0)] 1) g14l1_c)) (.trim [0,5] (sq [mo 26 0,nk 27 26,fa 28 0 27,ld 29 28,mo 30 5,oo 31 (.sliceS (.t 29) none (some (.t 30))),mo 6 31] [0,5,6] (sq [mo 32 0,mo 33 0,nk 34 33,fa 35 0 34,ld 36 35,mo 37 5,oo 38 (.sliceS (.t 36) (some (.t 37)) none),nk 39 32,fa 40 0 39,⟨none,none,(.store 1 (.t 40) (.t 38))⟩] [6] (.seq (.ops [mo 41 6,mo 4 41]) (.keep (kp [(4,0)] [(0,0)] 1) .ret)))))))),[.t 4]⟩
abbrev g14_S:=Sys.on [(100,g13_r)] []
@[reducible,simp] def g14l1_F:((Str×Bool)×Int)→Out:=(fun t=>(.ext 0,[(0,(.ptr 0 0 0)),(5,(.int .i64 t.2))],[(.live 2 [[(.str t.1.1),(.bool t.1.2)]])]))
def impl_scanner_while_o53_l1_b (v1:Str×Bool) (v2:Int):Option ((Int) ⊕ ((Str×Bool)×Int)):=if v2 < (v1.1.length:Int) then if 0≤v2 then (v1.1[(v2).toNat]?).bind fun (b3:UInt8)=>(impl_scanner_number_c1 ((b3.toNat:Int))).bind fun r4=>if r4=true then some (.inl ((IntKind.i64.wrap (v2+1)))) else some (.inr (v1,v2)) else none else some (.inr (v1,v2))
theorem g14l1_b_eq  (v1:Str×Bool) (v2:Int):X g14_S g14l1_cb (keepEnv [0,1,5] [(0,(.ptr 0 0 0)),(1,(.fn 100 [] [])),(5,(.int .i64 v2))]) [(.live 2 [[(.str v1.1),(.bool v1.2)]])]=(impl_scanner_while_o53_l1_b v1 v2).map (Sum.elim (fun s=>(TX.nrm,[(0,(.ptr 0 0 0)),(1,(.fn 100 [] [])),(5,(.int .i64 s))],[(.live 2 [[(.str v1.1),(.bool v1.2)]])])) g14l1_F):=by
  simp (maxSteps:=2000000) (maxDischargeDepth:=8) -implicitDefEqProofs [g14l1_cb,impl_scanner_while_o53_l1_b] <;> (try simp only [map_to_bind,some_elim,g14l1_F])
def impl_scanner_while_o53_l1 (v1:Str×Bool) (s:Int):Option ((Str×Bool)×Int):=loopO (fun s=>impl_scanner_while_o53_l1_b v1 s) s
@[simp] theorem g14l1_eq (y0 y1 y2):X g14_S g14l1_c [(0,(.ptr 0 0 0)),(1,(.fn 100 [] [])),(5,(.int .i64 y2))] [(.live 2 [[(.str y0),(.bool y1)]])]=(impl_scanner_while_o53_l1 ((y0,y1)) y2).map g14l1_F:=by
  exact loop_X _ _ _ _ (by intro r;first | (simp;done) | (rcases r with r | r <;> simp;done) | (rcases r with r | r | r <;> simp;done) | (rcases r with r | r | r | r <;> simp)) (fun s=>g14l1_b_eq  ((y0,y1)) s) y2
def impl_scanner_while_o53 (a1:Str×Bool):Option ((Str×Bool)×Str):=(impl_scanner_while_o53_l1 a1 0).bind fun r5=>(subL r5.1.1 none (some r5.2)).bind fun s6=>(subL r5.1.1 (some r5.2) none).bind fun s7=>some ((s7,r5.1.2),s6)
@[simp] def g14_O:((Str×Bool)×Str)→TV×List Blk:=fun r=>((.str r.2),[(.live 2 [[(.str r.1.1),(.bool r.1.2)]])])
abbrev g14_T:=(Str×Bool)
def g14_E (a:g14_T):List TV:=[(.ptr 0 0 0),(.fn 100 [] [])]
def g14_B (a:g14_T):List Blk:=[(.live 2 [[(.str a.1),(.bool a.2)]])]
theorem g14_run (a1:Str×Bool) :callFn (X g14_S) g14_tf (g14_E a1) (g14_B a1)=(impl_scanner_while_o53 a1).map g14_O:=by
  rw [callFn_eq]
  simp (maxSteps:=2000000) (maxDischargeDepth:=8) -implicitDefEqProofs [g14_tf,impl_scanner_while_o53,g14_E,g14_B] <;> (try simp only [map_to_bind,some_elim,g14_O])
def g14_r:MRule:=RmO g14_E g14_B (fun a=>impl_scanner_while_o53 a) g14_O
theorem g14_ok:MRuleOk Tryd.prog 96 1 g14_r:=ok_rmo (S:=g14_S) (tf:=g14_tf) (SysOk.on ⟨g13_ok,trivial⟩ trivial) (trE_ok (ks:=[[0,1,5]]) Tryd.func96 (by kernel_rfl)) (by rfl) (fun _=>by simp [g14_B]) (fun _=>by simp) fun a=>g14_run a
@[simp] theorem g14_app (y0 y1):g14_r [(.ptr 0 0 0),(.fn 100 [] [])] [(.live 2 [[(.str y0),(.bool y1)]])]=(impl_scanner_while_o53 ((y0,y1))).map g14_O:=by
  exact RmO_app (enc:=g14_E) (encB:=g14_B) (by intro a b h h2;simp [g14_E,g14_B,Prod.ext_iff] at h h2 ⊢;simp [h,h2]) ((y0,y1))
/-! impl.readDecimal -/
noncomputable def impl_readDecimal (s:Str):Option (Int×Bool):=rdecS s
noncomputable def impl_readDecimal_r:Rule:=rdec_r
@[simp] theorem impl_readDecimal_app (y0):impl_readDecimal_r [.str y0]=(impl_readDecimal y0).map (fun r=>(.tup [.int .i64 r.1,.bool r.2],[])):=rdecS_app y0
/-! (*impl.scanner).number -/
def g8_tf:TFn:=⟨(sq [mk 2 (ki 0)] [0] (sq [mo 6 0,oo 7 (.callM 96 1 [0] [.t 6,(.c (.fn 100 [] []))]),ca 8 99 [.t 7],mo 5 8,oo 9 (.ext (.t 5) 0),oo 10 (.ext (.t 5) 1),mo 3 9,mo 4 10] [0,3,4] (.seq (sq [mo 11 4,nt 12 11] [0,3,12] (.cond (.t 12) (.after (.ops [mo 13 0,nk 14 13,fa 15 1 14,⟨none,none,(.store 1 (.t 15) (kb true))⟩]) (kp [(3,0)] [(0,0)] 1)) (.keep (kp [(3,0)] [(0,0)] 1) .skip))) (.trim [3] (.seq (.ops [mo 16 3,mo 2 16]) (.keep (kp [(2,0)] [(0,0)] 1) .ret)))))),[.t 2]⟩
abbrev g8_S:=Sys.on [(99,impl_readDecimal_r)] [((96,1),(1,g14_r))]
def impl_scanner_number_od0 (a1:Str×Bool):Option ((Str×Bool)×Int):=(impl_scanner_while_o53 a1).bind fun r1=>(impl_readDecimal r1.2).bind fun r2=>if ¬(r2.2=true) then some ((r1.1.1,true),r2.1) else some (r1.1,r2.1)
@[simp] def g8_O:((Str×Bool)×Int)→TV×List Blk:=fun r=>((.int .i64 r.2),[(.live 2 [[(.str r.1.1),(.bool r.1.2)]])])
abbrev g8_T:=(Str×Bool)
def g8_E (a:g8_T):List TV:=[(.ptr 0 0 0)]
def g8_B (a:g8_T):List Blk:=[(.live 2 [[(.str a.1),(.bool a.2)]])]
theorem g8_run (a1:Str×Bool) :callFn (X g8_S) g8_tf (g8_E a1) (g8_B a1)=(impl_scanner_number_od0 a1).map g8_O:=by
  rw [callFn_eq]
  simp (maxSteps:=2000000) (maxDischargeDepth:=8) -implicitDefEqProofs [g8_tf,impl_scanner_number_od0,g8_E,g8_B] <;> (try simp only [map_to_bind,some_elim,g8_O])
def g8_r:MRule:=RmO g8_E g8_B (fun a=>impl_scanner_number_od0 a) g8_O
theorem g8_ok:MRuleOk Tryd.prog 61 1 g8_r:=ok_rmo (S:=g8_S) (tf:=g8_tf) (SysOk.on ⟨impl_readDecimal_ok,trivial⟩ ⟨g14_ok,trivial⟩) (trE_ok (ks:=[]) Tryd.func61 (by kernel_rfl)) (by rfl) (fun _=>by simp [g8_B]) (fun _=>by simp) fun a=>g8_run a
@[simp] theorem g8_app (y0 y1):g8_r [(.ptr 0 0 0)] [(.live 2 [[(.str y0),(.bool y1)]])]=(impl_scanner_number_od0 ((y0,y1))).map g8_O:=by
  exact RmO_app (enc:=g8_E) (encB:=g8_B) (by intro a b h h2;simp [g8_E,g8_B,Prod.ext_iff] at h h2 ⊢;simp [h,h2]) ((y0,y1))
/-! (*impl.scanner).expect -/
def g9_tf:TFn:=⟨(sq [mo 4 0,mo 5 1,oo 6 (.callM 28 0 [0] [.t 4,.t 5]),nt 7 6] [0,7] (.cond (.t 7) (.after (.ops [mo 8 0,nk 9 8,fa 10 1 9,⟨none,none,(.store 1 (.t 10) (kb true))⟩]) (kp [] [(0,0)] 1)) (.keep (kp [] [(0,0)] 1) .skip))),[]⟩
abbrev g9_S:=Sys.on [] [((28,0),(1,g7_r))]
def impl_scanner_expect_o0b (a1:Str×Bool) (a2:Str):Option ((Str×Bool)):=(impl_scanner_accept_o0b a1 a2).bind fun r1=>if ¬(r1.2=true) then some ((r1.1.1,true)) else some r1.1
@[simp] def g9_O:((Str×Bool))→TV×List Blk:=fun r=>((.tup []),[(.live 2 [[(.str r.1),(.bool r.2)]])])
abbrev g9_T:=(Str×Bool)×Str
def g9_E (a:g9_T):List TV:=[(.ptr 0 0 0),(.str a.2)]
def g9_B (a:g9_T):List Blk:=[(.live 2 [[(.str a.1.1),(.bool a.1.2)]])]
theorem g9_run (a1:Str×Bool) (a2:Str) :callFn (X g9_S) g9_tf (g9_E (a1,a2)) (g9_B (a1,a2))=(impl_scanner_expect_o0b a1 a2).map g9_O:=by
  rw [callFn_eq]
  simp (maxSteps:=2000000) (maxDischargeDepth:=8) -implicitDefEqProofs [g9_tf,impl_scanner_expect_o0b,g9_E,g9_B] <;> (try simp only [map_to_bind,some_elim,g9_O])
def g9_r:MRule:=RmO g9_E g9_B (fun a=>impl_scanner_expect_o0b a.1 a.2) g9_O
theorem g9_ok:MRuleOk Tryd.prog 62 1 g9_r:=ok_rmo (S:=g9_S) (tf:=g9_tf) (SysOk.on trivial ⟨g7_ok,trivial⟩) (trE_ok (ks:=[]) Tryd.func62 (by kernel_rfl)) (by rfl) (fun _=>by simp [g9_B]) (fun _=>by simp) fun a=>g9_run a.1 a.2
@[simp] theorem g9_app (y0 y1 y2):g9_r [(.ptr 0 0 0),(.str y2)] [(.live 2 [[(.str y0),(.bool y1)]])]=(impl_scanner_expect_o0b ((y0,y1)) y2).map g9_O:=by
  exact RmO_app (enc:=g9_E) (encB:=g9_B) (by intro a b h h2;simp [g9_E,g9_B,Prod.ext_iff] at h h2 ⊢;simp [h,h2]) ((y0,y1),y2)
/-! (*impl.scanner).filter -/
def g10p1_c:TC:=(sq [mo 19 0,oo 20 (.callM 28 0 [0] [.t 19,(.c (.str [63]))]),fa 21 2 3,⟨none,none,(.store 1 (.t 21) (.t 20))⟩] [2,3] (.seq (.ops [ln 22 3 3,⟨none,none,(.store 3 (.t 2) (.t 22))⟩]) (.keep (kp [(2,0)] [(0,0),(1,0)] 1) .ret)))
def g10_tf:TFn:=⟨(sq [oo 2 (.alloc [(.int .i64 0),(.int .i64 0),(.bool false)])] [0,2] (sq [oo 3 (.alloc [(.int .i64 0),(.int .i64 0),(.bool false)])] [0,2,3] (sq [oo 5 (.bslice [(.str [])] 6 [(0,(.c (.str []))),(1,(.c (.str [115,104,117,102,102,108,101]))),(2,(.c (.str [100,101,108,116,97]))),(3,(.c (.str [114,117,110]))),(4,(.c (.str [108,122]))),(5,(.c (.str [115,117,109])))]),mo 4 5] [0,2,3,4] (sq [mo 6 4,mo 7 0,oo 8 (.callM 60 0 [0] [.t 7]),ca 9 59 [.t 6,.t 8],oo 10 (.mm true (ki 0) (.t 9)),fa 11 0 3,⟨none,none,(.store 1 (.t 11) (.t 10))⟩] [0,2,3] (.seq (sq [mo 12 0,oo 13 (.callM 28 0 [0] [.t 12,(.c (.str [40]))])] [0,2,3,13] (.cond (.t 13) (sq [mo 14 0,oo 15 (.callM 61 0 [0] [.t 14]),fa 16 1 3,⟨none,none,(.store 1 (.t 16) (.t 15))⟩] [0,2,3] (.after (.ops [mo 17 0,oo 18 (.callM 62 0 [0] [.t 17,(.c (.str [41]))])]) (kp [(0,0),(2,0),(3,0)] [(0,0),(1,0),(2,0)] 1))) (.keep (kp [(0,0),(2,0),(3,0)] [(0,0),(1,0),(2,0)] 1) .skip))) (.trim [0,2,3] g10p1_c)))))),[.cell 2 (some 3)]⟩
abbrev g10_S:=Sys.on [(59,g5_r)] [((60,0),(1,g19_r)),((28,0),(1,g7_r)),((61,0),(1,g8_r)),((62,0),(1,g9_r))]
@[reducible,simp] def g10p1_F:((Str×Bool)×(Int×Int×Bool))→Out:=(fun t=>(.ret,[(2,(.ptr 1 0 0))],[(.live 2 [[(.str t.1.1),(.bool t.1.2)]]),(.live 3 [[(.int .i64 t.2.1),(.int .i64 t.2.2.1),(.bool t.2.2.2)]])]))
def impl_scanner_filter_od0_p1 (v6:Str×Bool) (v7:Int×Int×Bool) (v8:Int×Int×Bool):Option ((Str×Bool)×(Int×Int×Bool)):=(impl_scanner_accept_o0b v6 (([63]:Str))).bind fun r9=>some ((r9.1,(v8.1,v8.2.1,r9.2)))
@[simp] theorem g10p1_eq (y0 y1 y2 y3 y4 y5 y6 y7):X g10_S g10p1_c [(0,(.ptr 0 0 0)),(2,(.ptr 1 0 0)),(3,(.ptr 2 0 0))] [(.live 2 [[(.str y0),(.bool y1)]]),(.live 3 [[(.int .i64 y2),(.int .i64 y3),(.bool y4)]]),(.live 3 [[(.int .i64 y5),(.int .i64 y6),(.bool y7)]])]=(impl_scanner_filter_od0_p1 ((y0,y1)) ((y2,y3,y4)) ((y5,y6,y7))).map g10p1_F:=by
  simp (maxSteps:=2000000) (maxDischargeDepth:=8) -implicitDefEqProofs [g10p1_c,impl_scanner_filter_od0_p1,bslV_lit (α:=Str) (zs:=[(.str [])])] <;> (try simp only [map_to_bind,some_elim,g10p1_F])
def impl_scanner_filter_od0 (a1:Str×Bool):Option ((Str×Bool)×(Int×Int×Bool)):=(impl_scanner_word_od0 a1).bind fun r1=>(slices_Index_string_string_ ((lit [([]:Str),([115,104,117,102,102,108,101]:Str),([100,101,108,116,97]:Str),([114,117,110]:Str),([108,122]:Str),([115,117,109]:Str)]:List Str)) r1.2).bind fun r2=>(impl_scanner_accept_o0b r1.1 (([40]:Str))).bind fun r3=>if r3.2=true then (impl_scanner_number_od0 r3.1).bind fun r4=>(impl_scanner_expect_o0b r4.1 (([41]:Str))).bind fun r5=>(impl_scanner_filter_od0_p1 r5 ((0,0,false)) (((max 0 r2),r4.2,false))).bind fun r10=>some (r10.1,r10.2) else (impl_scanner_filter_od0_p1 r3.1 ((0,0,false)) (((max 0 r2),0,false))).bind fun r11=>some (r11.1,r11.2)
@[simp] def g10_O:((Str×Bool)×(Int×Int×Bool))→TV×List Blk:=fun r=>((.agg [(.int .i64 r.2.1),(.int .i64 r.2.2.1),(.bool r.2.2.2)]),[(.live 2 [[(.str r.1.1),(.bool r.1.2)]]),(.live 3 [[(.int .i64 r.2.1),(.int .i64 r.2.2.1),(.bool r.2.2.2)]])])
abbrev g10_T:=(Str×Bool)
def g10_E (a:g10_T):List TV:=[(.ptr 0 0 0)]
def g10_B (a:g10_T):List Blk:=[(.live 2 [[(.str a.1),(.bool a.2)]])]
theorem g10_run (a1:Str×Bool) :callFn (X g10_S) g10_tf (g10_E a1) (g10_B a1)=(impl_scanner_filter_od0 a1).map g10_O:=by
  rw [callFn_eq]
  simp (maxSteps:=2000000) (maxDischargeDepth:=8) -implicitDefEqProofs [g10_tf,impl_scanner_filter_od0,g10_E,g10_B,bslV_lit (α:=Str) (zs:=[(.str [])])] <;> (try simp only [map_to_bind,some_elim,g10_O])
def g10_r:MRule:=RmO g10_E g10_B (fun a=>impl_scanner_filter_od0 a) g10_O
theorem g10_ok:MRuleOk Tryd.prog 27 1 g10_r:=ok_rmo (S:=g10_S) (tf:=g10_tf) (SysOk.on ⟨g5_ok,trivial⟩ ⟨g19_ok,g7_ok,g8_ok,g9_ok,trivial⟩) (trE_ok (ks:=[]) Tryd.func27 (by kernel_rfl)) (by rfl) (fun _=>by simp [g10_B]) (fun _=>by simp) fun a=>g10_run a
@[simp] theorem g10_app (y0 y1):g10_r [(.ptr 0 0 0)] [(.live 2 [[(.str y0),(.bool y1)]])]=(impl_scanner_filter_od0 ((y0,y1))).map g10_O:=by
  exact RmO_app (enc:=g10_E) (encB:=g10_B) (by intro a b h h2;simp [g10_E,g10_B,Prod.ext_iff] at h h2 ⊢;simp [h,h2]) ((y0,y1))
/-! impl.ReadPipeline -/
def g37l1_cb:TC:=(.seq (sq [mo 14 4,nk 15 14,fa 16 1 15,ld 17 16,nt 18 17,mo 19 18,⟨(some 20),(some (19,true)),(.mv (.t 4))⟩,⟨(some 21),(some (19,true)),(.callM 28 0 [0] [.t 20,(.c (.str [43]))])⟩,pk 22 (.t 19) (.t 21) (kb false)] [0,4,5,22] (.cond (.t 22) .skip (.keep (kp [(0,0),(4,0),(5,1)] [(0,0),(1,1)] 0) (.exit 0)))) (.trim [0,4,5] (.block 1 (.after (.ops [mo 23 5,mo 24 4,oo 25 (.callM 27 0 [0] [.t 24]),oo 26 (.bslice [(.int .i64 0),(.int .i64 0),(.bool false)] 1 [(0,(.t 25))]),oo 27 (.append 55 3 24 (.t 23) (.t 26)),mo 5 27]) (kp [(0,0),(4,0),(5,1)] [(0,0),(4,1)] 0)))))
def g37l1_c:TC:=.loop [0,4,5] g37l1_cb
def g37_tf:TFn:=⟨(sq [mk 2 (.c .nils),mk 3 (kb false)] [0] (.seq (sq [mo 6 0,oo 7 (.bin .str .eql (.t 6) (.c (.str [110,111,110,101])))] [0,7] (.cond (.t 7) (.seq (.ops [mk 2 (.c .nils),mk 3 (kb true)]) (.keep (kp [(2,1),(3,0)] [(1000,1)] 0) .ret)) .skip)) (.trim [0] (sq [mo 8 0,oo 9 (.build [(.str []),(.bool false)] [(0,1,(.t 8))]),bx 10 9,mo 4 10] [0,4] (sq [mo 11 4,oo 12 (.callM 27 0 [0] [.t 11]),oo 13 (.bslice [(.int .i64 0),(.int .i64 0),(.bool false)] 1 [(0,(.t 12))]),mo 5 13] [0,4,5] (.seq (.block 0 (.keep (kp [(0,0),(4,0),(5,1)] [(0,0),(2,1)] 0) g37l1_c)) (.trim [0,4,5] (.seq (sq [mo 28 4,nk 29 28,fa 30 1 29,ld 31 30,mo 32 31,⟨(some 33),(some (32,false)),(.mv (.t 5))⟩,⟨(some 34),(some (32,false)),(.call 11 [.t 33])⟩,⟨(some 35),(some (32,false)),(.un .not (.t 34))⟩,pk 36 (.t 32) (kb true) (.t 35),mo 37 36,⟨(some 38),(some (37,false)),(.mv (.t 5))⟩,⟨(some 39),(some (37,false)),(.call 29 [.t 38])⟩,⟨(some 40),(some (37,false)),(.mv (.t 0))⟩,⟨(some 41),(some (37,false)),(.bin .str .neq (.t 39) (.t 40))⟩,pk 42 (.t 37) (kb true) (.t 41)] [5,42] (.cond (.t 42) (.seq (.ops [mk 2 (.c .nils),mk 3 (kb false)]) (.keep (kp [(2,1),(3,0)] [(1000,1)] 0) .ret)) .skip)) (.trim [5] (.seq (.ops [mo 43 5,mo 2 43,mk 3 (kb true)]) (.keep (kp [(2,1),(3,0)] [(1,1)] 0) .ret))))))))))),[.t 2,.t 3]⟩
abbrev g37_S:=Sys.on [(11,g31_r),(29,g34_r)] [((27,0),(1,g10_r)),((28,0),(1,g7_r))]
@[reducible,simp] def g37l1_F:(Str×(Str×Bool)×(List (Int×Int×Bool)))→Out:=(fun t=>(.ext 0,[(0,(.str t.1)),(4,(.ptr 0 0 0)),(5,(ow 1 t.2.2.length))],[(.live 2 [[(.str t.2.1.1),(.bool t.2.1.2)]]),(ob 3 t.2.2)]))
def impl_ReadPipeline_l1_b (v2:Str) (v3:Str×Bool) (v4:List (Int×Int×Bool)):Option (((Str×Bool)×(List (Int×Int×Bool))) ⊕ (Str×(Str×Bool)×(List (Int×Int×Bool)))):=if ¬(v3.2=true) then (impl_scanner_accept_o0b v3 (([43]:Str))).bind fun r5=>if r5.2=true then (impl_scanner_filter_od0 r5.1).bind fun r6=>(appL 24 v4 ((lit [(r6.2.1,r6.2.2.1,r6.2.2.2)]:List (Int×Int×Bool)))).bind fun l7=>some (.inl (r6.1,l7)) else some (.inr (v2,r5.1,v4)) else some (.inr (v2,v3,v4))
theorem g37l1_b_eq  (v2:Str) (v3:Str×Bool) (v4:List (Int×Int×Bool)):X g37_S g37l1_cb (keepEnv [0,4,5] [(0,(.str v2)),(4,(.ptr 0 0 0)),(5,(ow 1 v4.length))]) [(.live 2 [[(.str v3.1),(.bool v3.2)]]),(ob 3 v4)]=(impl_ReadPipeline_l1_b v2 v3 v4).map (Sum.elim (fun s=>(TX.nrm,[(0,(.str v2)),(4,(.ptr 0 0 0)),(5,(ow 1 s.2.length))],[(.live 2 [[(.str s.1.1),(.bool s.1.2)]]),(ob 3 s.2)])) g37l1_F):=by
  simp (maxSteps:=2000000) (maxDischargeDepth:=8) -implicitDefEqProofs [g37l1_cb,impl_ReadPipeline_l1_b,bslV_lit (α:=Int×Int×Bool) (zs:=[(.int .i64 0),(.int .i64 0),(.bool false)])] <;> (try simp only [map_to_bind,some_elim,g37l1_F])
def impl_ReadPipeline_l1 (v2:Str) (s:(Str×Bool)×(List (Int×Int×Bool))):Option (Str×(Str×Bool)×(List (Int×Int×Bool))):=loopO (fun s=>impl_ReadPipeline_l1_b v2 s.1 s.2) s
@[simp] theorem g37l1_eq (y0 y1 y2)(y3:List (Int×Int×Bool)){n1:Nat}(h1:n1=y3.length):X g37_S g37l1_c [(0,(.str y0)),(4,(.ptr 0 0 0)),(5,(ow 1 n1))] [(.live 2 [[(.str y1),(.bool y2)]]),(ob 3 y3)]=(impl_ReadPipeline_l1 y0 ((y1,y2),y3)).map g37l1_F:=by
  subst h1
  exact loop_X _ _ _ _ (by intro r;first | (simp;done) | (rcases r with r | r <;> simp;done) | (rcases r with r | r | r <;> simp;done) | (rcases r with r | r | r | r <;> simp)) (fun s=>g37l1_b_eq  y0 s.1 s.2) ((y1,y2),y3)
def impl_ReadPipeline (a_s:Str):Option ((List (Int×Int×Bool))×Bool):=if a_s=([110,111,110,101]:Str) then some (([]:List (Int×Int×Bool)),true) else (impl_scanner_filter_od0 ((a_s,false))).bind fun r1=>(impl_ReadPipeline_l1 a_s ((r1.1,(lit [(r1.2.1,r1.2.2.1,r1.2.2.2)]:List (Int×Int×Bool))))).bind fun r8=>if r8.2.1.2=true then some (([]:List (Int×Int×Bool)),false) else (impl_ValidPipeline r8.2.2).bind fun r9=>if ¬(r9=true) then some (([]:List (Int×Int×Bool)),false) else (impl_pipelineText r8.2.2).bind fun r10=>if ¬(r10=r8.1) then some (([]:List (Int×Int×Bool)),false) else some (r8.2.2,true)
@[simp] def g37_O:((List (Int×Int×Bool))×Bool)→TV×List Blk:=fun r=>((.tup [(ow 0 r.1.length),(.bool r.2)]),[(ob 3 r.1)])
def g37_E (a:Str):List TV:=[(.str a)]
theorem g37_run (a_s:Str) :callFn (X g37_S) g37_tf (g37_E a_s) []=(impl_ReadPipeline a_s).map g37_O:=by
  rw [callFn_eq]
  simp (maxSteps:=2000000) (maxDischargeDepth:=8) -implicitDefEqProofs [g37_tf,impl_ReadPipeline,g37_E,bslV_lit (α:=Int×Int×Bool) (zs:=[(.int .i64 0),(.int .i64 0),(.bool false)])] <;> (try simp only [map_to_bind,some_elim,g37_O])
def g37_r:Rule:=RlO g37_E (fun a=>impl_ReadPipeline a) g37_O
theorem g37_ok:RuleOk Tryd.prog 8 g37_r:=ok_rlo (S:=g37_S) (tf:=g37_tf) (SysOk.on ⟨g31_ok,g34_ok,trivial⟩ ⟨g10_ok,g7_ok,trivial⟩) (trE_ok (ks:=[[0,4,5]]) Tryd.func8 (by kernel_rfl)) fun a=>g37_run a
@[simp] theorem g37_app (y0):g37_r [(.str y0)]=(impl_ReadPipeline y0).map g37_O :=
  RlO_app (enc:=g37_E) (by intro a b h;simp [g37_E,Prod.ext_iff] at h ⊢;simp [h]) y0
/-! slices.Equal[[]impl.Filter,impl.Filter] -/
def g2l1_cb:TC:=(sq [bn 14 .lss (.t 13) (.t 12)] [0,1,12,13,14] (.seq (.cond (.t 14) .skip (.keep (kp [] [] 0) (.exit 0))) (.trim [0,1,12,13] (.seq (.block 1 (sq [mo 15 13,mo 5 15] [0,1,5,12,13] (.seq (.draw [([],mo 16 0),([],mo 17 5),([0,1],ia 18 3 16 17),([0,1,2],ln 19 3 18),([],mo 20 1),([],mo 21 5),([4,5],ia 22 3 20 21),([4,5,6],ln 23 3 22)] [oo 24 (.bin (.agg [0,0,2]) .neq (.t 19) (.t 23))]) (.trim [0,1,12,13,24] (.cond (.t 24) (.seq (.ops [mk 4 (kb false)]) (.keep (kp [(4,0)] [] 0) .ret)) .skip))))) (.trim [0,1,12,13] (.after (.ops [bn 25 .add (.t 13) (ki 1),mo 13 25]) (kp [(0,0),(1,0),(12,0),(13,0)] [] 0)))))))
def g2l1_c:TC:=.loop [0,1,12,13] g2l1_cb
def g2_tf:TFn:=⟨(sq [mk 4 (kb false)] [0,1] (.seq (sq [mo 6 0,le 7 6,mo 8 1,le 9 8,bn 10 .neq (.t 7) (.t 9)] [0,1,10] (.cond (.t 10) (.seq (.ops [mk 4 (kb false)]) (.keep (kp [(4,0)] [] 0) .ret)) .skip)) (.trim [0,1] (.seq (sq [mo 11 0,le 12 11,mk 13 (ki 0)] [0,1,12,13] (.block 0 (.keep (kp [(0,0),(1,0),(12,0),(13,0)] [] 0) g2l1_c))) (.trim [] (.seq (.ops [mk 4 (kb true)]) (.keep (kp [(4,0)] [] 0) .ret))))))),[.t 4]⟩
abbrev g2_S:=Sys.on [] []
@[reducible,simp] def g2l1_F:((Unit) ⊕ (Bool))→Out:=(Sum.elim (fun t=>(.ext 0,[],[])) (fun t=>(.ret,[(4,(.bool t))],[])))
def slices_Equal_impl_Filter_impl_Filter__l1_b (v1:List (Int×Int×Bool)) (v2:List (Int×Int×Bool)) (v3:Int) (v4:Int):Option ((Int) ⊕ ((Unit) ⊕ (Bool))):=if v4 < v3 then if 0≤v4 then (v1[(v4).toNat]?).bind fun x5=>if 0≤v4 then (v2[(v4).toNat]?).bind fun x6=>if ((!((decide (x5.1=x6.1) && (decide (x5.2.1=x6.2.1) && (x5.2.2 == x6.2.2))))))=true then some (.inr (.inr false)) else some (.inl ((IntKind.i64.wrap (v4+1)))) else none else none else some (.inr (.inl ()))
theorem g2l1_b_eq  (v1:List (Int×Int×Bool)) (v2:List (Int×Int×Bool)) (v3:Int) (v4:Int):X g2_S g2l1_cb (keepEnv [0,1,12,13] [(0,(.vs (rows v1))),(1,(.vs (rows v2))),(12,(.int .i64 v3)),(13,(.int .i64 v4))]) []=(slices_Equal_impl_Filter_impl_Filter__l1_b v1 v2 v3 v4).map (Sum.elim (fun s=>(TX.nrm,[(0,(.vs (rows v1))),(1,(.vs (rows v2))),(12,(.int .i64 v3)),(13,(.int .i64 s))],[])) g2l1_F):=by
  simp (maxSteps:=2000000) (maxDischargeDepth:=8) -implicitDefEqProofs [g2l1_cb,slices_Equal_impl_Filter_impl_Filter__l1_b] <;> (try simp only [map_to_bind,some_elim,g2l1_F])
def slices_Equal_impl_Filter_impl_Filter__l1 (v1:List (Int×Int×Bool)) (v2:List (Int×Int×Bool)) (v3:Int) (s:Int):Option ((Unit) ⊕ (Bool)):=loopO (fun s=>slices_Equal_impl_Filter_impl_Filter__l1_b v1 v2 v3 s) s
@[simp] theorem g2l1_eq (y0 y1 y2 y3):X g2_S g2l1_c [(0,(.vs (rows y0))),(1,(.vs (rows y1))),(12,(.int .i64 y2)),(13,(.int .i64 y3))] []=(slices_Equal_impl_Filter_impl_Filter__l1 y0 y1 y2 y3).map g2l1_F:=by
  exact loop_X _ _ _ _ (by intro r;first | (simp;done) | (rcases r with r | r <;> simp;done) | (rcases r with r | r | r <;> simp;done) | (rcases r with r | r | r | r <;> simp)) (fun s=>g2l1_b_eq  y0 y1 y2 s) y3
def slices_Equal_impl_Filter_impl_Filter_ (a_s1:List (Int×Int×Bool)) (a_s2:List (Int×Int×Bool)):Option (Bool):=if ¬((a_s1.length:Int)=(a_s2.length:Int)) then some false else (slices_Equal_impl_Filter_impl_Filter__l1 a_s1 a_s2 ((a_s1.length:Int)) 0).bind fun r7=>Sum.elim (fun u8=>some true) (fun u9=>some u9) r7
@[simp] def g2_O:Bool→TV×List Blk:=fun r=>((.bool r),[])
def g2_E (a:(List (Int×Int×Bool))×(List (Int×Int×Bool))):List TV:=[(.vs (rows a.1)),(.vs (rows a.2))]
theorem g2_run (a_s1:List (Int×Int×Bool)) (a_s2:List (Int×Int×Bool)) :callFn (X g2_S) g2_tf (g2_E (a_s1,a_s2)) []=(slices_Equal_impl_Filter_impl_Filter_ a_s1 a_s2).map g2_O:=by
  rw [callFn_eq]
  simp (maxSteps:=2000000) (maxDischargeDepth:=8) -implicitDefEqProofs [g2_tf,slices_Equal_impl_Filter_impl_Filter_,g2_E] <;> (try simp only [map_to_bind,some_elim,g2_O])
def g2_r:Rule:=RlO g2_E (fun a=>slices_Equal_impl_Filter_impl_Filter_ a.1 a.2) g2_O
theorem g2_ok:RuleOk Tryd.prog 30 g2_r:=ok_rlo (S:=g2_S) (tf:=g2_tf) (SysOk.on trivial trivial) (trE_ok (ks:=[[0,1,12,13],[8]]) Tryd.func30 (by kernel_rfl)) fun a=>g2_run a.1 a.2
@[simp] theorem g2_app (y0 y1):g2_r [(.vs (rows y0)),(.vs (rows y1))]=(slices_Equal_impl_Filter_impl_Filter_ y0 y1).map g2_O :=
  RlO_app (enc:=g2_E) (by intro a b h;simp [g2_E,Prod.ext_iff] at h ⊢;simp [h]) (y0,y1)
end
end Go.Proofs.TM
