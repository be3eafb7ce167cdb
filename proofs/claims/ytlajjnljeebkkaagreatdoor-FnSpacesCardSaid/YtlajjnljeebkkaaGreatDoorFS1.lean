/- Functions of the program, as functions of their data: written by program. -/
import Derived.Test.YtlajjnljeebkkaaGreatDoorFS0
namespace Go.Proofs.TM
open Go Go.Proofs
set_option linter.unusedVariables false
set_option linter.unusedSimpArgs false
set_option maxHeartbeats 1000000
attribute [-simp] Option.map_bind strV_some
attribute [simp] guardOn_bool sA_bslice Function.comp_def
noncomputable section
/-! (impl.Space).encode -/
def g25l1_cb:TC:=(sq [bn 14 .lss (.t 13) (.t 12)] [1,3,11,12,13,14] (.seq (.cond (.t 14) .skip (.keep (kp [(3,0)] [] 0) (.exit 0))) (.trim [1,3,11,12,13] (.seq (.block 1 (sq [mo 15 13,ia 16 1 11 13,ld 17 16,mo 4 15,mo 5 17] [1,3,4,5,11,12,13] (sq [mo 18 3,mo 19 5,ca 20 36 [.t 19,ki 1],oo 21 (.bin .str .add (.t 18) (.t 20)),mo 3 21] [1,3,4,11,12,13] (sq [fa 22 1 1,ld 23 22,mo 24 4,ia 25 1 23 24,ld 26 25,bn 27 .eql (.t 26) (ki (-1))] [1,3,4,11,12,13,27] (.cond (.t 27) (.after (.ops [mo 28 3,ca 29 36 [ki 255,ki 1],oo 30 (.bin .str .add (.t 28) (.t 29)),mo 3 30]) (kp [(1,0),(3,0),(11,0),(12,0),(13,0)] [(0,0)] 0)) (.after (.ops [mo 31 3,fa 32 1 1,ld 33 32,mo 34 4,ia 35 1 33 34,ld 36 35,ca 37 36 [.t 36,ki 1],oo 38 (.bin .str .add (.t 31) (.t 37)),mo 3 38]) (kp [(1,0),(3,0),(11,0),(12,0),(13,0)] [(0,0)] 0))))))) (.trim [1,3,11,12,13] (.after (.ops [bn 39 .add (.t 13) (ki 1),mo 13 39]) (kp [(1,0),(3,0),(11,0),(12,0),(13,0)] [(0,0)] 0)))))))
def g25l1_c:TC:=.loop [1,3,11,12,13] g25l1_cb
def g25_tf:TFn:=⟨(sq [bx 1 0,mk 2 (.c (.str []))] [1] (sq [fa 6 0 1,ld 7 6,le 8 7,ca 9 36 [.t 8,ki 1],mo 3 9] [1,3] (.seq (sq [fa 10 0 1,ld 11 10,le 12 11,mk 13 (ki 0)] [1,3,11,12,13] (.block 0 (.keep (kp [(1,0),(3,0),(11,0),(12,0),(13,0)] [(0,0)] 0) g25l1_c))) (.trim [3] (.seq (.ops [mo 40 3,mo 2 40]) (.keep (kp [(2,0)] [] 0) .ret)))))),[.t 2]⟩
abbrev g25_S:=Sys.on [(36,g43_r)] []
@[reducible,simp] def g25l1_F:Str→Out:=(fun t=>(.ext 0,[(3,(.str t))],[]))
def impl_Space_encode_l1_b (v2:List Int×List Int) (v4:List Int) (v5:Int) (v3:Str) (v6:Int):Option ((Str×Int) ⊕ (Str)):=if v6 < v5 then if 0≤v6 then (v4[(v6).toNat]?).bind fun x7=>(impl_putBytes x7 1).bind fun r8=>if v3.length+r8.length≤9223372036854775807 then if 0≤v6 then (v2.2[(v6).toNat]?).bind fun x9=>if x9=(-1) then (impl_putBytes 255 1).bind fun r10=>if ((v3++r8)).length+r10.length≤9223372036854775807 then some (.inl (((v3++r8)++r10),(IntKind.i64.wrap (v6+1)))) else none else if 0≤v6 then (v2.2[(v6).toNat]?).bind fun x11=>(impl_putBytes x11 1).bind fun r12=>if ((v3++r8)).length+r12.length≤9223372036854775807 then some (.inl (((v3++r8)++r12),(IntKind.i64.wrap (v6+1)))) else none else none else none else none else none else some (.inr v3)
theorem g25l1_b_eq  (v2:List Int×List Int) (v4:List Int) (v5:Int) (v3:Str) (v6:Int):X g25_S g25l1_cb (keepEnv [1,3,11,12,13] [(1,(.ptr 0 0 0)),(3,(.str v3)),(11,(.vs (rows v4))),(12,(.int .i64 v5)),(13,(.int .i64 v6))]) [(.live 2 [[(.vs (rows v2.1)),(.vs (rows v2.2))]])]=(impl_Space_encode_l1_b v2 v4 v5 v3 v6).map (Sum.elim (fun s=>(TX.nrm,[(1,(.ptr 0 0 0)),(3,(.str s.1)),(11,(.vs (rows v4))),(12,(.int .i64 v5)),(13,(.int .i64 s.2))],[(.live 2 [[(.vs (rows v2.1)),(.vs (rows v2.2))]])])) g25l1_F):=by
  simp (maxSteps:=2000000) (maxDischargeDepth:=8) -implicitDefEqProofs [g25l1_cb,impl_Space_encode_l1_b] <;> (try simp only [map_to_bind,some_elim,g25l1_F])
def impl_Space_encode_l1 (v2:List Int×List Int) (v4:List Int) (v5:Int) (s:Str×Int):Option (Str):=loopO (fun s=>impl_Space_encode_l1_b v2 v4 v5 s.1 s.2) s
@[simp] theorem g25l1_eq (y0 y1 y2 y3 y4 y5):X g25_S g25l1_c [(1,(.ptr 0 0 0)),(3,(.str y2)),(11,(.vs (rows y3))),(12,(.int .i64 y4)),(13,(.int .i64 y5))] [(.live 2 [[(.vs (rows y0)),(.vs (rows y1))]])]=(impl_Space_encode_l1 ((y0,y1)) y3 y4 (y2,y5)).map g25l1_F:=by
  exact loop_X _ _ _ _ (by intro r;first | (simp;done) | (rcases r with r | r <;> simp;done) | (rcases r with r | r | r <;> simp;done) | (rcases r with r | r | r | r <;> simp)) (fun s=>g25l1_b_eq  ((y0,y1)) y3 y4 s.1 s.2) (y2,y5)
def impl_Space_encode (a_s:List Int×List Int):Option (Str):=(impl_putBytes ((a_s.1.length:Int)) 1).bind fun r1=>(impl_Space_encode_l1 a_s a_s.1 ((a_s.1.length:Int)) ((r1,0))).bind fun r13=>some r13
@[simp] def g25_O:Str→TV×List Blk:=fun r=>((.str r),[])
def g25_E (a:(List Int×List Int)):List TV:=[(.agg [(.vs (rows a.1)),(.vs (rows a.2))])]
theorem g25_run (a_s:List Int×List Int) :callFn (X g25_S) g25_tf (g25_E a_s) []=(impl_Space_encode a_s).map g25_O:=by
  rw [callFn_eq]
  simp (maxSteps:=2000000) (maxDischargeDepth:=8) -implicitDefEqProofs [g25_tf,impl_Space_encode,g25_E] <;> (try simp only [map_to_bind,some_elim,g25_O])
def g25_r:Rule:=RlO g25_E (fun a=>impl_Space_encode a) g25_O
theorem g25_ok:RuleOk Tryz.prog 18 g25_r:=ok_rlo (S:=g25_S) (tf:=g25_tf) (SysOk.on ⟨g43_ok,trivial⟩ trivial) (trE_ok (ks:=[[1,3,11,12,13]]) Tryz.func18 (by kernel_rfl)) fun a=>g25_run a
@[simp] theorem g25_app (y0 y1):g25_r [(.agg [(.vs (rows y0)),(.vs (rows y1))])]=(impl_Space_encode ((y0,y1))).map g25_O :=
  RlO_app (enc:=g25_E) (by intro a b h;simp [g25_E,Prod.ext_iff] at h ⊢;simp [h]) ((y0,y1))
/-! impl.EncodeSpace -/
def g30_tf:TFn:=⟨(sq [bx 1 0,mk 2 (.c (.str []))] [1] (.seq (sq [ln 3 2 1,ca 4 17 [.t 3],nt 5 4] [1,5] (.cond (.t 5) (.seq (.ops [mk 2 (.c (.str []))]) (.keep (kp [(2,0)] [] 0) .ret)) .skip)) (.trim [1] (.seq (.ops [ln 6 2 1,ca 7 18 [.t 6],mo 2 7]) (.keep (kp [(2,0)] [] 0) .ret))))),[.t 2]⟩
abbrev g30_S:=Sys.on [(17,g34_r),(18,g25_r)] []
def impl_EncodeSpace (a_s:List Int×List Int):Option (Str):=(impl_ValidSpace a_s).bind fun r1=>if ¬(r1=true) then some (([]:Str)) else (impl_Space_encode a_s).bind fun r2=>some r2
@[simp] def g30_O:Str→TV×List Blk:=fun r=>((.str r),[])
def g30_E (a:(List Int×List Int)):List TV:=[(.agg [(.vs (rows a.1)),(.vs (rows a.2))])]
theorem g30_run (a_s:List Int×List Int) :callFn (X g30_S) g30_tf (g30_E a_s) []=(impl_EncodeSpace a_s).map g30_O:=by
  rw [callFn_eq]
  simp (maxSteps:=2000000) (maxDischargeDepth:=8) -implicitDefEqProofs [g30_tf,impl_EncodeSpace,g30_E] <;> (try simp only [map_to_bind,some_elim,g30_O])
def g30_r:Rule:=RlO g30_E (fun a=>impl_EncodeSpace a) g30_O
theorem g30_ok:RuleOk Tryz.prog 5 g30_r:=ok_rlo (S:=g30_S) (tf:=g30_tf) (SysOk.on ⟨g34_ok,g25_ok,trivial⟩ trivial) (trE_ok (ks:=[]) Tryz.func5 (by kernel_rfl)) fun a=>g30_run a
@[simp] theorem g30_app (y0 y1):g30_r [(.agg [(.vs (rows y0)),(.vs (rows y1))])]=(impl_EncodeSpace ((y0,y1))).map g30_O :=
  RlO_app (enc:=g30_E) (by intro a b h;simp [g30_E,Prod.ext_iff] at h ⊢;simp [h]) ((y0,y1))
/-! strconv.FormatInt -/
noncomputable def strconv_FormatInt (n:Int):Option Str:=fmtS n
noncomputable def strconv_FormatInt_r:Rule:=fmt_r
@[simp] theorem strconv_FormatInt_app (y0):strconv_FormatInt_r [.int .i64 y0,.int .i64 10]=(strconv_FormatInt y0).map (fun r=>(.str r,[])):=fmtS_app y0
/-! impl.decimal -/
def g50_tf:TFn:=⟨(sq [mk 2 (.c (.str []))] [0] (.seq (.ops [mo 3 0,ca 4 49 [.t 3,ki 10],mo 2 4]) (.keep (kp [(2,0)] [] 0) .ret))),[.t 2]⟩
abbrev g50_S:=Sys.on [(49,strconv_FormatInt_r)] []
def impl_decimal (a_n:Int):Option (Str):=(strconv_FormatInt a_n).bind fun r1=>some r1
@[simp] def g50_O:Str→TV×List Blk:=fun r=>((.str r),[])
def g50_E (a:Int):List TV:=[(.int .i64 a)]
theorem g50_run (a_n:Int) :callFn (X g50_S) g50_tf (g50_E a_n) []=(impl_decimal a_n).map g50_O:=by
  rw [callFn_eq]
  simp (maxSteps:=2000000) (maxDischargeDepth:=8) -implicitDefEqProofs [g50_tf,impl_decimal,g50_E] <;> (try simp only [map_to_bind,some_elim,g50_O])
def g50_r:Rule:=RlO g50_E (fun a=>impl_decimal a) g50_O
theorem g50_ok:RuleOk Tryz.prog 37 g50_r:=ok_rlo (S:=g50_S) (tf:=g50_tf) (SysOk.on ⟨strconv_FormatInt_ok,trivial⟩ trivial) (trE_ok (ks:=[]) Tryz.func37 (by kernel_rfl)) fun a=>g50_run a
@[simp] theorem g50_app (y0):g50_r [(.int .i64 y0)]=(impl_decimal y0).map g50_O :=
  RlO_app (enc:=g50_E) (by intro a b h;simp [g50_E,Prod.ext_iff] at h ⊢;simp [h]) y0
/-! strings.Join -/
noncomputable def strings_Join (l:List Str) (s:Str):Option Str:=joinS l s
noncomputable def strings_Join_r:Rule:=join_r
@[simp] theorem strings_Join_app (y0 y1):strings_Join_r [.vs (rows y0),.str y1]=(strings_Join y0 y1).map (fun r=>(.str r,[])):=joinS_app y0 y1
/-! (impl.Space).text -/
def g35p2_c:TC:=(.after (.ops [mo 38 3,mo 39 6,oo 40 (.bslice [(.str [])] 1 [(0,(.t 39))]),oo 41 (.append 9 1 16 (.t 38) (.t 40)),mo 3 41]) (kp [(1,0),(3,1),(8,0),(9,0),(10,0)] [(0,0),(3,1)] 0))
def g35l1_cb:TC:=(sq [bn 11 .lss (.t 10) (.t 9)] [1,3,8,9,10,11] (.seq (.cond (.t 11) .skip (.keep (kp [(3,1)] [(1,1)] 0) (.exit 0))) (.trim [1,3,8,9,10] (.seq (.block 1 (sq [mo 12 10,ia 13 1 8 10,ld 14 13,mo 4 12,mo 5 14] [1,3,4,5,8,9,10] (sq [mo 15 5,ca 16 37 [.t 15],mo 6 16] [1,3,4,5,6,8,9,10] (.seq (sq [fa 17 1 1,ld 18 17,mo 19 4,ia 20 1 18 19,ld 21 20] [1,3,4,5,6,8,9,10,21] (.block 2 (sq [bn 32 .eql (.t 21) (ki (-1)),mo 31 32] [1,3,4,5,6,8,9,10,21,31] (.cond (.t 31) (.after (.ops [mo 33 6,oo 34 (.bin .str .add (.t 33) (.c (.str [47,42]))),mo 6 34]) (kp [(1,0),(3,1),(6,0),(8,0),(9,0),(10,0)] [(0,0),(1,1)] 0)) (sq [mo 36 5,bn 37 .eql (.t 21) (.t 36),mo 35 37] [1,3,4,6,8,9,10,35] (.cond (.t 35) (.keep (kp [(1,0),(3,1),(6,0),(8,0),(9,0),(10,0)] [(0,0),(1,1)] 0) .skip) (.after (.ops [mo 22 6,fa 23 1 1,ld 24 23,mo 25 4,ia 26 1 24 25,ld 27 26,ca 28 37 [.t 27],oo 29 (.bin .str .add (.c (.str [47])) (.t 28)),oo 30 (.bin .str .add (.t 22) (.t 29)),mo 6 30]) (kp [(1,0),(3,1),(6,0),(8,0),(9,0),(10,0)] [(0,0),(1,1)] 0)))))))) (.trim [1,3,6,8,9,10] g35p2_c))))) (.trim [1,3,8,9,10] (.after (.ops [bn 42 .add (.t 10) (ki 1),mo 10 42]) (kp [(1,0),(3,1),(8,0),(9,0),(10,0)] [(0,0),(1,1)] 0)))))))
def g35l1_c:TC:=.loop [1,3,8,9,10] g35l1_cb
def g35_tf:TFn:=⟨(sq [bx 1 0,mk 2 (.c (.str []))] [1] (sq [mk 3 (.c .nils)] [1,3] (.seq (sq [fa 7 0 1,ld 8 7,le 9 8,mk 10 (ki 0)] [1,3,8,9,10] (.block 0 (.keep (kp [(1,0),(3,1),(8,0),(9,0),(10,0)] [(0,0),(1000,1)] 0) g35l1_c))) (.trim [3] (.seq (.ops [mo 43 3,oo 44 (.call 38 [.t 43,(.c (.str [44]))]),oo 45 (.bin .str .add (.c (.str [40])) (.t 44)),oo 46 (.bin .str .add (.t 45) (.c (.str [41]))),mo 2 46]) (.keep (kp [(2,0)] [] 0) .ret)))))),[.t 2]⟩
abbrev g35_S:=Sys.on [(37,g50_r),(38,strings_Join_r)] []
@[reducible,simp] def g35p2_F:((List Int×List Int)×List Str×List Int×Int×Int)→Out:=(fun t=>(.nrm,[(1,(.ptr 0 0 0)),(3,(ow 1 t.2.1.length)),(8,(.vs (rows t.2.2.1))),(9,(.int .i64 t.2.2.2.1)),(10,(.int .i64 t.2.2.2.2))],[(.live 2 [[(.vs (rows t.1.1)),(.vs (rows t.1.2))]]),(ob 1 t.2.1)]))
def impl_Space_text_p2 (v11:List Int×List Int) (v12:List Str) (v13:Str) (v14:List Int) (v15:Int) (v16:Int):Option ((List Int×List Int)×List Str×List Int×Int×Int):=(appL 16 v12 ((lit [v13]:List Str))).bind fun l17=>some ((v11,l17,v14,v15,v16))
@[simp] theorem g35p2_eq (y0 y1)(y2:List Str)(y3 y4 y5 y6){n1:Nat}(h1:n1=y2.length):X g35_S g35p2_c [(1,(.ptr 0 0 0)),(3,(ow 1 n1)),(6,(.str y3)),(8,(.vs (rows y4))),(9,(.int .i64 y5)),(10,(.int .i64 y6))] [(.live 2 [[(.vs (rows y0)),(.vs (rows y1))]]),(ob 1 y2)]=(impl_Space_text_p2 ((y0,y1)) y2 y3 y4 y5 y6).map g35p2_F:=by
  subst h1
  simp (maxSteps:=2000000) (maxDischargeDepth:=8) -implicitDefEqProofs [g35p2_c,impl_Space_text_p2,bslV_lit (α:=Str) (zs:=[(.str [])])] <;> (try simp only [map_to_bind,some_elim,g35p2_F])
@[reducible,simp] def g35l1_F:(List Str)→Out:=(fun t=>(.ext 0,[(3,(ow 0 t.length))],[(ob 1 t)]))
def impl_Space_text_l1_b (v1:List Int×List Int) (v2:List Str) (v3:List Int) (v4:Int) (v5:Int):Option (((List Int×List Int)×List Str×List Int×Int×Int) ⊕ (List Str)):=if v5 < v4 then if 0≤v5 then (v3[(v5).toNat]?).bind fun x6=>(impl_decimal x6).bind fun r7=>if 0≤v5 then (v1.2[(v5).toNat]?).bind fun x8=>if x8=(-1) then if r7.length+(([47,42]:Str)).length≤9223372036854775807 then (impl_Space_text_p2 v1 v2 ((r7++([47,42]:Str))) v3 v4 v5).bind fun r18=>some (.inl (r18.1,r18.2.1,r18.2.2.1,r18.2.2.2.1,(IntKind.i64.wrap (r18.2.2.2.2+1)))) else none else if x8=x6 then (impl_Space_text_p2 v1 v2 r7 v3 v4 v5).bind fun r19=>some (.inl (r19.1,r19.2.1,r19.2.2.1,r19.2.2.2.1,(IntKind.i64.wrap (r19.2.2.2.2+1)))) else if 0≤v5 then (v1.2[(v5).toNat]?).bind fun x9=>(impl_decimal x9).bind fun r10=>if (([47]:Str)).length+r10.length≤9223372036854775807 then if r7.length+((([47]:Str)++r10)).length≤9223372036854775807 then (impl_Space_text_p2 v1 v2 ((r7++(([47]:Str)++r10))) v3 v4 v5).bind fun r20=>some (.inl (r20.1,r20.2.1,r20.2.2.1,r20.2.2.2.1,(IntKind.i64.wrap (r20.2.2.2.2+1)))) else none else none else none else none else none else some (.inr v2)
theorem g35l1_b_eq  (v1:List Int×List Int) (v2:List Str) (v3:List Int) (v4:Int) (v5:Int):X g35_S g35l1_cb (keepEnv [1,3,8,9,10] [(1,(.ptr 0 0 0)),(3,(ow 1 v2.length)),(8,(.vs (rows v3))),(9,(.int .i64 v4)),(10,(.int .i64 v5))]) [(.live 2 [[(.vs (rows v1.1)),(.vs (rows v1.2))]]),(ob 1 v2)]=(impl_Space_text_l1_b v1 v2 v3 v4 v5).map (Sum.elim (fun s=>(TX.nrm,[(1,(.ptr 0 0 0)),(3,(ow 1 s.2.1.length)),(8,(.vs (rows s.2.2.1))),(9,(.int .i64 s.2.2.2.1)),(10,(.int .i64 s.2.2.2.2))],[(.live 2 [[(.vs (rows s.1.1)),(.vs (rows s.1.2))]]),(ob 1 s.2.1)])) g35l1_F):=by
  simp (maxSteps:=2000000) (maxDischargeDepth:=8) -implicitDefEqProofs [g35l1_cb,impl_Space_text_l1_b,bslV_lit (α:=Str) (zs:=[(.str [])])] <;> (try simp only [map_to_bind,some_elim,g35l1_F])
def impl_Space_text_l1  (s:(List Int×List Int)×List Str×List Int×Int×Int):Option (List Str):=loopO (fun s=>impl_Space_text_l1_b  s.1 s.2.1 s.2.2.1 s.2.2.2.1 s.2.2.2.2) s
@[simp] theorem g35l1_eq (y0 y1)(y2:List Str)(y3 y4 y5){n1:Nat}(h1:n1=y2.length):X g35_S g35l1_c [(1,(.ptr 0 0 0)),(3,(ow 1 n1)),(8,(.vs (rows y3))),(9,(.int .i64 y4)),(10,(.int .i64 y5))] [(.live 2 [[(.vs (rows y0)),(.vs (rows y1))]]),(ob 1 y2)]=(impl_Space_text_l1  ((y0,y1),y2,y3,y4,y5)).map g35l1_F:=by
  subst h1
  exact loop_X _ _ _ _ (by intro r;first | (simp;done) | (rcases r with r | r <;> simp;done) | (rcases r with r | r | r <;> simp;done) | (rcases r with r | r | r | r <;> simp)) (fun s=>g35l1_b_eq   s.1 s.2.1 s.2.2.1 s.2.2.2.1 s.2.2.2.2) ((y0,y1),y2,y3,y4,y5)
@[simp] theorem g35l1_eq_1 (y0 y1 y2 y3 y4):X g35_S g35l1_c [(1,(.ptr 0 0 0)),(3,.es),(8,(.vs (rows y2))),(9,(.int .i64 y3)),(10,(.int .i64 y4))] [(.live 2 [[(.vs (rows y0)),(.vs (rows y1))]]),.dead]=(impl_Space_text_l1  ((y0,y1),([]:List Str),y2,y3,y4)).map g35l1_F :=
  g35l1_eq  y0 y1 ([]:List Str) y2 y3 y4 rfl
def impl_Space_text (a_s:List Int×List Int):Option (Str):=(impl_Space_text_l1 ((a_s,([]:List Str),a_s.1,(a_s.1.length:Int),0))).bind fun r21=>(strings_Join r21 (([44]:Str))).bind fun r22=>if (([40]:Str)).length+r22.length≤9223372036854775807 then if ((([40]:Str)++r22)).length+(([41]:Str)).length≤9223372036854775807 then some (((([40]:Str)++r22)++([41]:Str))) else none else none
@[simp] def g35_O:Str→TV×List Blk:=fun r=>((.str r),[])
def g35_E (a:(List Int×List Int)):List TV:=[(.agg [(.vs (rows a.1)),(.vs (rows a.2))])]
theorem g35_run (a_s:List Int×List Int) :callFn (X g35_S) g35_tf (g35_E a_s) []=(impl_Space_text a_s).map g35_O:=by
  rw [callFn_eq]
  simp (maxSteps:=2000000) (maxDischargeDepth:=8) -implicitDefEqProofs [g35_tf,impl_Space_text,g35_E,bslV_lit (α:=Str) (zs:=[(.str [])])] <;> (try simp only [map_to_bind,some_elim,g35_O])
def g35_r:Rule:=RlO g35_E (fun a=>impl_Space_text a) g35_O
theorem g35_ok:RuleOk Tryz.prog 19 g35_r:=ok_rlo (S:=g35_S) (tf:=g35_tf) (SysOk.on ⟨g50_ok,strings_Join_ok,trivial⟩ trivial) (trE_ok (ks:=[[1,3,8,9,10]]) Tryz.func19 (by kernel_rfl)) fun a=>g35_run a
@[simp] theorem g35_app (y0 y1):g35_r [(.agg [(.vs (rows y0)),(.vs (rows y1))])]=(impl_Space_text ((y0,y1))).map g35_O :=
  RlO_app (enc:=g35_E) (by intro a b h;simp [g35_E,Prod.ext_iff] at h ⊢;simp [h]) ((y0,y1))
/-! impl.SpaceText -/
def g40_tf:TFn:=⟨(sq [bx 1 0,mk 2 (.c (.str []))] [1] (.seq (sq [ln 3 2 1,ca 4 17 [.t 3],nt 5 4] [1,5] (.cond (.t 5) (.seq (.ops [mk 2 (.c (.str []))]) (.keep (kp [(2,0)] [] 0) .ret)) .skip)) (.trim [1] (.seq (.ops [ln 6 2 1,ca 7 19 [.t 6],mo 2 7]) (.keep (kp [(2,0)] [] 0) .ret))))),[.t 2]⟩
abbrev g40_S:=Sys.on [(17,g34_r),(19,g35_r)] []
def impl_SpaceText (a_s:List Int×List Int):Option (Str):=(impl_ValidSpace a_s).bind fun r1=>if ¬(r1=true) then some (([]:Str)) else (impl_Space_text a_s).bind fun r2=>some r2
@[simp] def g40_O:Str→TV×List Blk:=fun r=>((.str r),[])
def g40_E (a:(List Int×List Int)):List TV:=[(.agg [(.vs (rows a.1)),(.vs (rows a.2))])]
theorem g40_run (a_s:List Int×List Int) :callFn (X g40_S) g40_tf (g40_E a_s) []=(impl_SpaceText a_s).map g40_O:=by
  rw [callFn_eq]
  simp (maxSteps:=2000000) (maxDischargeDepth:=8) -implicitDefEqProofs [g40_tf,impl_SpaceText,g40_E] <;> (try simp only [map_to_bind,some_elim,g40_O])
def g40_r:Rule:=RlO g40_E (fun a=>impl_SpaceText a) g40_O
theorem g40_ok:RuleOk Tryz.prog 6 g40_r:=ok_rlo (S:=g40_S) (tf:=g40_tf) (SysOk.on ⟨g34_ok,g35_ok,trivial⟩ trivial) (trE_ok (ks:=[]) Tryz.func6 (by kernel_rfl)) fun a=>g40_run a
@[simp] theorem g40_app (y0 y1):g40_r [(.agg [(.vs (rows y0)),(.vs (rows y1))])]=(impl_SpaceText ((y0,y1))).map g40_O :=
  RlO_app (enc:=g40_E) (by intro a b h;simp [g40_E,Prod.ext_iff] at h ⊢;simp [h]) ((y0,y1))
/-! spec.l00In -/
def g60_tf:TFn:=⟨(sq [mk 6 (kb false)] [0,1,2] (.seq (.after (.ops [mo 7 0,mo 8 1,bn 9 .geq (.t 7) (.t 8),mo 10 9,⟨(some 11),(some (10,true)),(.mv (.t 0))⟩,⟨(some 12),(some (10,true)),(.mv (.t 2))⟩,⟨(some 13),(some (10,true)),(.bin .num .leq (.t 11) (.t 12))⟩,pk 14 (.t 10) (.t 13) (kb false),mo 6 14]) (kp [(6,0)] [] 0)) (.keep (kp [(6,0)] [] 0) .ret))),[.t 6]⟩
abbrev g60_S:=Sys.on [] []
def spec_l00In (a_n:Int) (a_low:Int) (a_high:Int):Option (Bool):=if a_n ≥ a_low then some ((decide (a_n≤a_high))) else some false
@[simp] def g60_O:Bool→TV×List Blk:=fun r=>((.bool r),[])
def g60_E (a:Int×Int×Int):List TV:=[(.int .i64 a.1),(.int .i64 a.2.1),(.int .i64 a.2.2)]
theorem g60_run (a_n:Int) (a_low:Int) (a_high:Int) :callFn (X g60_S) g60_tf (g60_E (a_n,a_low,a_high)) []=(spec_l00In a_n a_low a_high).map g60_O:=by
  rw [callFn_eq]
  simp (maxSteps:=2000000) (maxDischargeDepth:=8) -implicitDefEqProofs [g60_tf,spec_l00In,g60_E] <;> (try simp only [map_to_bind,some_elim,g60_O])
def g60_r:Rule:=RlO g60_E (fun a=>spec_l00In a.1 a.2.1 a.2.2) g60_O
theorem g60_ok:RuleOk Tryz.prog 40 g60_r:=ok_rlo (S:=g60_S) (tf:=g60_tf) (SysOk.on trivial trivial) (trE_ok (ks:=[]) Tryz.func40 (by kernel_rfl)) fun a=>g60_run a.1 a.2.1 a.2.2
@[simp] theorem g60_app (y0 y1 y2):g60_r [(.int .i64 y0),(.int .i64 y1),(.int .i64 y2)]=(spec_l00In y0 y1 y2).map g60_O :=
  RlO_app (enc:=g60_E) (by intro a b h;simp [g60_E,Prod.ext_iff] at h ⊢;simp [h]) (y0,y1,y2)
/-! spec.l05Dims -/
def g52l1_cb:TC:=(.seq (sq [mo 8 4,mo 9 0,le 10 9,bn 11 .lss (.t 8) (.t 10)] [0,3,4,11] (.cond (.t 11) .skip (.keep (kp [(3,0)] [] 0) (.exit 0)))) (.trim [0,3,4] (.seq (.block 1 (.seq (sq [mo 14 0,mo 15 4,ia 16 1 14 15,ld 17 16,ca 18 40 [.t 17,ki 0,ki 40],nt 19 18] [0,3,4,19] (.cond (.t 19) (.seq (.ops [mk 2 (kb false)]) (.keep (kp [(2,0)] [] 0) .ret)) .skip)) (.trim [0,3,4] (.ops [mo 20 3,mo 21 0,mo 22 4,ia 23 1 21 22,ld 24 23,bn 25 .mul (.t 20) (.t 24),mo 3 25])))) (.trim [0,3,4] (.after (.ops [mo 12 4,bn 13 .add (.t 12) (ki 1),mo 4 13]) (kp [(0,0),(3,0),(4,0)] [] 0))))))
def g52l1_c:TC:=.loop [0,3,4] g52l1_cb
def g52_tf:TFn:=⟨(sq [mk 2 (kb false)] [0] (.seq (sq [mo 5 0,le 6 5,bn 7 .gtr (.t 6) (ki 3)] [0,7] (.cond (.t 7) (.seq (.ops [mk 2 (kb false)]) (.keep (kp [(2,0)] [] 0) .ret)) .skip)) (.trim [0] (sq [mk 3 (ki 1)] [0,3] (.seq (sq [mk 4 (ki 0)] [0,3,4] (.block 0 (.keep (kp [(0,0),(3,0),(4,0)] [] 0) g52l1_c))) (.trim [3] (.seq (.ops [mo 26 3,bn 27 .leq (.t 26) (ki 600),mo 2 27]) (.keep (kp [(2,0)] [] 0) .ret)))))))),[.t 2]⟩
abbrev g52_S:=Sys.on [(40,g60_r)] []
@[reducible,simp] def g52l1_F:((Int) ⊕ (Bool))→Out:=(Sum.elim (fun t=>(.ext 0,[(3,(.int .i64 t))],[])) (fun t=>(.ret,[(2,(.bool t))],[])))
def spec_l05Dims_l1_b (v1:List Int) (v2:Int) (v3:Int):Option ((Int×Int) ⊕ ((Int) ⊕ (Bool))):=if v3 < (v1.length:Int) then if 0≤v3 then (v1[(v3).toNat]?).bind fun x4=>(spec_l00In x4 0 40).bind fun r5=>if ¬(r5=true) then some (.inr (.inr false)) else if 0≤v3 then (v1[(v3).toNat]?).bind fun x6=>some (.inl ((IntKind.i64.wrap (v2 * x6)),(IntKind.i64.wrap (v3+1)))) else none else none else some (.inr (.inl v2))
theorem g52l1_b_eq  (v1:List Int) (v2:Int) (v3:Int):X g52_S g52l1_cb (keepEnv [0,3,4] [(0,(.vs (rows v1))),(3,(.int .i64 v2)),(4,(.int .i64 v3))]) []=(spec_l05Dims_l1_b v1 v2 v3).map (Sum.elim (fun s=>(TX.nrm,[(0,(.vs (rows v1))),(3,(.int .i64 s.1)),(4,(.int .i64 s.2))],[])) g52l1_F):=by
  simp (maxSteps:=2000000) (maxDischargeDepth:=8) -implicitDefEqProofs [g52l1_cb,spec_l05Dims_l1_b] <;> (try simp only [map_to_bind,some_elim,g52l1_F])
def spec_l05Dims_l1 (v1:List Int) (s:Int×Int):Option ((Int) ⊕ (Bool)):=loopO (fun s=>spec_l05Dims_l1_b v1 s.1 s.2) s
@[simp] theorem g52l1_eq (y0 y1 y2):X g52_S g52l1_c [(0,(.vs (rows y0))),(3,(.int .i64 y1)),(4,(.int .i64 y2))] []=(spec_l05Dims_l1 y0 (y1,y2)).map g52l1_F:=by
  exact loop_X _ _ _ _ (by intro r;first | (simp;done) | (rcases r with r | r <;> simp;done) | (rcases r with r | r | r <;> simp;done) | (rcases r with r | r | r | r <;> simp)) (fun s=>g52l1_b_eq  y0 s.1 s.2) (y1,y2)
def spec_l05Dims (a_dims:List Int):Option (Bool):=if (a_dims.length:Int) > 3 then some false else (spec_l05Dims_l1 a_dims ((1,0))).bind fun r7=>Sum.elim (fun u8=>some ((decide (u8≤600)))) (fun u9=>some u9) r7
@[simp] def g52_O:Bool→TV×List Blk:=fun r=>((.bool r),[])
def g52_E (a:List Int):List TV:=[(.vs (rows a))]
theorem g52_run (a_dims:List Int) :callFn (X g52_S) g52_tf (g52_E a_dims) []=(spec_l05Dims a_dims).map g52_O:=by
  rw [callFn_eq]
  simp (maxSteps:=2000000) (maxDischargeDepth:=8) -implicitDefEqProofs [g52_tf,spec_l05Dims,g52_E] <;> (try simp only [map_to_bind,some_elim,g52_O])
def g52_r:Rule:=RlO g52_E (fun a=>spec_l05Dims a) g52_O
theorem g52_ok:RuleOk Tryz.prog 39 g52_r:=ok_rlo (S:=g52_S) (tf:=g52_tf) (SysOk.on ⟨g60_ok,trivial⟩ trivial) (trE_ok (ks:=[[0,3,4]]) Tryz.func39 (by kernel_rfl)) fun a=>g52_run a
@[simp] theorem g52_app (y0):g52_r [(.vs (rows y0))]=(spec_l05Dims y0).map g52_O :=
  RlO_app (enc:=g52_E) (by intro a b h;simp [g52_E,Prod.ext_iff] at h ⊢;simp [h]) y0
/-! spec.l05Space -/
def g44l1_cb:TC:=(.seq (sq [mo 17 3,fa 18 1 1,ld 19 18,le 20 19,bn 21 .lss (.t 17) (.t 20)] [1,3,21] (.cond (.t 21) .skip (.keep (kp [] [] 0) (.exit 0)))) (.trim [1,3] (.seq (.block 1 (.seq (.draw [([],fa 24 1 1),([0],ld 25 24),([],mo 26 3),([0,1,2],ia 27 1 25 26),([0,1,2,3],ld 28 27),([0,1,2,3,4],bn 29 .neq (.t 28) (ki (-1))),([0,1,2,3,4,5],mo 30 29),([0,1,2,3,4,5,6],⟨(some 31),(some (30,true)),(.faddr 1 (.t 1))⟩),([0,1,2,3,4,5,6,7],⟨(some 32),(some (30,true)),(.load none (.t 31))⟩),([0,1,2,3,4,5,6],⟨(some 33),(some (30,true)),(.mv (.t 3))⟩),([0,1,2,3,4,5,6,7,8,9],⟨(some 34),(some (30,true)),(.iaddr 1 (.t 32) (.t 33))⟩),([0,1,2,3,4,5,6,7,8,9,10],⟨(some 35),(some (30,true)),(.load none (.t 34))⟩),([0,1,2,3,4,5,6],⟨(some 36),(some (30,true)),(.faddr 0 (.t 1))⟩),([0,1,2,3,4,5,6,12],⟨(some 37),(some (30,true)),(.load none (.t 36))⟩),([0,1,2,3,4,5,6],⟨(some 38),(some (30,true)),(.mv (.t 3))⟩),([0,1,2,3,4,5,6,12,13,14],⟨(some 39),(some (30,true)),(.iaddr 1 (.t 37) (.t 38))⟩),([0,1,2,3,4,5,6,12,13,14,15],⟨(some 40),(some (30,true)),(.load none (.t 39))⟩)] [⟨(some 41),(some (30,true)),(.call 40 [.t 35,.t 40,ki 40])⟩,⟨(some 42),(some (30,true)),(.un .not (.t 41))⟩,pk 43 (.t 30) (.t 42) (kb false)]) (.trim [1,3,43] (.cond (.t 43) (.seq (.ops [mk 2 (kb false)]) (.keep (kp [(2,0)] [] 0) .ret)) (.keep (kp [(1,0),(3,0)] [(0,0)] 0) .skip))))) (.trim [1,3] (.after (.ops [mo 22 3,bn 23 .add (.t 22) (ki 1),mo 3 23]) (kp [(1,0),(3,0)] [(0,0)] 0))))))
def g44l1_c:TC:=.loop [1,3] g44l1_cb
def g44_tf:TFn:=⟨(sq [bx 1 0,mk 2 (kb false)] [1] (.seq (sq [fa 4 0 1,ld 5 4,ca 6 39 [.t 5],nt 7 6,mo 8 7,⟨(some 9),(some (8,false)),(.faddr 1 (.t 1))⟩,⟨(some 10),(some (8,false)),(.load none (.t 9))⟩,⟨(some 11),(some (8,false)),(.len false (.t 10))⟩,⟨(some 12),(some (8,false)),(.faddr 0 (.t 1))⟩,⟨(some 13),(some (8,false)),(.load none (.t 12))⟩,⟨(some 14),(some (8,false)),(.len false (.t 13))⟩,⟨(some 15),(some (8,false)),(.bin .num .neq (.t 11) (.t 14))⟩,pk 16 (.t 8) (kb true) (.t 15)] [1,16] (.cond (.t 16) (.seq (.ops [mk 2 (kb false)]) (.keep (kp [(2,0)] [] 0) .ret)) .skip)) (.trim [1] (.seq (sq [mk 3 (ki 0)] [1,3] (.block 0 (.keep (kp [(1,0),(3,0)] [(0,0)] 0) g44l1_c))) (.trim [] (.seq (.ops [mk 2 (kb true)]) (.keep (kp [(2,0)] [] 0) .ret))))))),[.t 2]⟩
abbrev g44_S:=Sys.on [(39,g52_r),(40,g60_r)] []
@[reducible,simp] def g44l1_F:((Unit) ⊕ (Bool))→Out:=(Sum.elim (fun t=>(.ext 0,[],[])) (fun t=>(.ret,[(2,(.bool t))],[])))
def spec_l05Space_l1_b (v2:List Int×List Int) (v3:Int):Option ((Int) ⊕ ((Unit) ⊕ (Bool))):=if v3 < (v2.2.length:Int) then if 0≤v3 then (v2.2[(v3).toNat]?).bind fun x4=>if ¬(x4=(-1)) then if 0≤v3 then (v2.2[(v3).toNat]?).bind fun x5=>if 0≤v3 then (v2.1[(v3).toNat]?).bind fun x6=>(spec_l00In x5 x6 40).bind fun r7=>if ¬(r7=true) then some (.inr (.inr false)) else some (.inl ((IntKind.i64.wrap (v3+1)))) else none else none else some (.inl ((IntKind.i64.wrap (v3+1)))) else none else some (.inr (.inl ()))
theorem g44l1_b_eq  (v2:List Int×List Int) (v3:Int):X g44_S g44l1_cb (keepEnv [1,3] [(1,(.ptr 0 0 0)),(3,(.int .i64 v3))]) [(.live 2 [[(.vs (rows v2.1)),(.vs (rows v2.2))]])]=(spec_l05Space_l1_b v2 v3).map (Sum.elim (fun s=>(TX.nrm,[(1,(.ptr 0 0 0)),(3,(.int .i64 s))],[(.live 2 [[(.vs (rows v2.1)),(.vs (rows v2.2))]])])) g44l1_F):=by
  simp (maxSteps:=2000000) (maxDischargeDepth:=8) -implicitDefEqProofs [g44l1_cb,spec_l05Space_l1_b] <;> (try simp only [map_to_bind,some_elim,g44l1_F])
def spec_l05Space_l1 (v2:List Int×List Int) (s:Int):Option ((Unit) ⊕ (Bool)):=loopO (fun s=>spec_l05Space_l1_b v2 s) s
@[simp] theorem g44l1_eq (y0 y1 y2):X g44_S g44l1_c [(1,(.ptr 0 0 0)),(3,(.int .i64 y2))] [(.live 2 [[(.vs (rows y0)),(.vs (rows y1))]])]=(spec_l05Space_l1 ((y0,y1)) y2).map g44l1_F:=by
  exact loop_X _ _ _ _ (by intro r;first | (simp;done) | (rcases r with r | r <;> simp;done) | (rcases r with r | r | r <;> simp;done) | (rcases r with r | r | r | r <;> simp)) (fun s=>g44l1_b_eq  ((y0,y1)) s) y2
def spec_l05Space (a_s:List Int×List Int):Option (Bool):=(spec_l05Dims a_s.1).bind fun r1=>if ¬(r1=true) then some false else if ¬((a_s.2.length:Int)=(a_s.1.length:Int)) then some false else (spec_l05Space_l1 a_s 0).bind fun r8=>Sum.elim (fun u9=>some true) (fun u10=>some u10) r8
@[simp] def g44_O:Bool→TV×List Blk:=fun r=>((.bool r),[])
def g44_E (a:(List Int×List Int)):List TV:=[(.agg [(.vs (rows a.1)),(.vs (rows a.2))])]
theorem g44_run (a_s:List Int×List Int) :callFn (X g44_S) g44_tf (g44_E a_s) []=(spec_l05Space a_s).map g44_O:=by
  rw [callFn_eq]
  simp (maxSteps:=2000000) (maxDischargeDepth:=8) -implicitDefEqProofs [g44_tf,spec_l05Space,g44_E] <;> (try simp only [map_to_bind,some_elim,g44_O])
def g44_r:Rule:=RlO g44_E (fun a=>spec_l05Space a) g44_O
theorem g44_ok:RuleOk Tryz.prog 20 g44_r:=ok_rlo (S:=g44_S) (tf:=g44_tf) (SysOk.on ⟨g52_ok,g60_ok,trivial⟩ trivial) (trE_ok (ks:=[[1,3],[17]]) Tryz.func20 (by kernel_rfl)) fun a=>g44_run a
@[simp] theorem g44_app (y0 y1):g44_r [(.agg [(.vs (rows y0)),(.vs (rows y1))])]=(spec_l05Space ((y0,y1))).map g44_O :=
  RlO_app (enc:=g44_E) (by intro a b h;simp [g44_E,Prod.ext_iff] at h ⊢;simp [h]) ((y0,y1))
/-! spec.ValidSpace -/
def g36_tf:TFn:=⟨(sq [bx 1 0,mk 2 (kb false)] [1] (.seq (.ops [ln 3 2 1,ca 4 20 [.t 3],mo 2 4]) (.keep (kp [(2,0)] [] 0) .ret))),[.t 2]⟩
abbrev g36_S:=Sys.on [(20,g44_r)] []
def spec_ValidSpace (a_s:List Int×List Int):Option (Bool):=(spec_l05Space a_s).bind fun r1=>some r1
@[simp] def g36_O:Bool→TV×List Blk:=fun r=>((.bool r),[])
def g36_E (a:(List Int×List Int)):List TV:=[(.agg [(.vs (rows a.1)),(.vs (rows a.2))])]
theorem g36_run (a_s:List Int×List Int) :callFn (X g36_S) g36_tf (g36_E a_s) []=(spec_ValidSpace a_s).map g36_O:=by
  rw [callFn_eq]
  simp (maxSteps:=2000000) (maxDischargeDepth:=8) -implicitDefEqProofs [g36_tf,spec_ValidSpace,g36_E] <;> (try simp only [map_to_bind,some_elim,g36_O])
def g36_r:Rule:=RlO g36_E (fun a=>spec_ValidSpace a) g36_O
theorem g36_ok:RuleOk Tryz.prog 7 g36_r:=ok_rlo (S:=g36_S) (tf:=g36_tf) (SysOk.on ⟨g44_ok,trivial⟩ trivial) (trE_ok (ks:=[]) Tryz.func7 (by kernel_rfl)) fun a=>g36_run a
@[simp] theorem g36_app (y0 y1):g36_r [(.agg [(.vs (rows y0)),(.vs (rows y1))])]=(spec_ValidSpace ((y0,y1))).map g36_O :=
  RlO_app (enc:=g36_E) (by intro a b h;simp [g36_E,Prod.ext_iff] at h ⊢;simp [h]) ((y0,y1))
/-! impl.cut -/
def g61_tf:TFn:=⟨(sq [mk 6 (.c (.str [])),mk 7 (kb false)] [0,1,2] (.seq (sq [mo 8 2,bn 9 .lss (.t 8) (ki 0),mo 10 9,⟨(some 11),(some (10,false)),(.mv (.t 1))⟩,⟨(some 12),(some (10,false)),(.mv (.t 0))⟩,⟨(some 13),(some (10,false)),(.len true (.t 12))⟩,⟨(some 14),(some (10,false)),(.mv (.t 2))⟩,⟨(some 15),(some (10,false)),(.bin .num .sub (.t 13) (.t 14))⟩,⟨(some 16),(some (10,false)),(.call 28 [.t 11,ki 0,.t 15])⟩,⟨(some 17),(some (10,false)),(.un .not (.t 16))⟩,pk 18 (.t 10) (kb true) (.t 17)] [0,1,2,18] (.cond (.t 18) (.seq (.ops [mk 6 (.c (.str [])),mk 7 (kb false)]) (.keep (kp [(6,0),(7,0)] [] 0) .ret)) .skip)) (.trim [0,1,2] (.seq (.ops [mo 19 0,mo 20 1,mo 21 1,mo 22 2,bn 23 .add (.t 21) (.t 22),oo 24 (.sliceS (.t 19) (some (.t 20)) (some (.t 23))),mo 6 24,mk 7 (kb true)]) (.keep (kp [(6,0),(7,0)] [] 0) .ret))))),[.t 6,.t 7]⟩
abbrev g61_S:=Sys.on [(28,g58_r)] []
def impl_cut (a_s:Str) (a_at:Int) (a_size:Int):Option (Str×Bool):=if a_size < 0 then some (([]:Str),false) else (impl_within a_at 0 ((IntKind.i64.wrap ((a_s.length:Int) - a_size)))).bind fun r1=>if ¬(r1=true) then some (([]:Str),false) else (subL a_s (some a_at) (some ((IntKind.i64.wrap (a_at+a_size))))).bind fun s2=>some (s2,true)
@[simp] def g61_O:(Str×Bool)→TV×List Blk:=fun r=>((.tup [(.str r.1),(.bool r.2)]),[])
def g61_E (a:Str×Int×Int):List TV:=[(.str a.1),(.int .i64 a.2.1),(.int .i64 a.2.2)]
theorem g61_run (a_s:Str) (a_at:Int) (a_size:Int) :callFn (X g61_S) g61_tf (g61_E (a_s,a_at,a_size)) []=(impl_cut a_s a_at a_size).map g61_O:=by
  rw [callFn_eq]
  simp (maxSteps:=2000000) (maxDischargeDepth:=8) -implicitDefEqProofs [g61_tf,impl_cut,g61_E] <;> (try simp only [map_to_bind,some_elim,g61_O])
def g61_r:Rule:=RlO g61_E (fun a=>impl_cut a.1 a.2.1 a.2.2) g61_O
theorem g61_ok:RuleOk Tryz.prog 78 g61_r:=ok_rlo (S:=g61_S) (tf:=g61_tf) (SysOk.on ⟨g58_ok,trivial⟩ trivial) (trE_ok (ks:=[]) Tryz.func78 (by kernel_rfl)) fun a=>g61_run a.1 a.2.1 a.2.2
@[simp] theorem g61_app (y0 y1 y2):g61_r [(.str y0),(.int .i64 y1),(.int .i64 y2)]=(impl_cut y0 y1 y2).map g61_O :=
  RlO_app (enc:=g61_E) (by intro a b h;simp [g61_E,Prod.ext_iff] at h ⊢;simp [h]) (y0,y1,y2)
/-! (*impl.decoder).take -/
def g16_tf:TFn:=⟨(sq [mk 4 (.c (.str []))] [0,1] (sq [mo 8 0,nk 9 8,fa 10 0 9,ld 11 10,mo 12 1,ca 13 78 [.t 11,ki 0,.t 12],mo 7 13,oo 14 (.ext (.t 7) 0),oo 15 (.ext (.t 7) 1),mo 5 14,mo 6 15] [0,1,5,6] (.seq (sq [mo 16 6,nt 17 16] [0,1,5,17] (.cond (.t 17) (sq [mo 18 0,nk 19 18,fa 20 1 19,⟨none,none,(.store 1 (.t 20) (kb true))⟩] [] (.seq (.ops [mk 4 (.c (.str []))]) (.keep (kp [(4,0)] [(0,0)] 1) .ret))) .skip)) (.trim [0,1,5] (sq [mo 21 0,mo 22 0,nk 23 22,fa 24 0 23,ld 25 24,mo 26 1,oo 27 (.sliceS (.t 25) (some (.t 26)) none),nk 28 21,fa 29 0 28,⟨none,none,(.store 1 (.t 29) (.t 27))⟩] [5] (.seq (.ops [mo 30 5,mo 4 30]) (.keep (kp [(4,0)] [(0,0)] 1) .ret))))))),[.t 4]⟩
abbrev g16_S:=Sys.on [(78,g61_r)] []
def impl_decoder_take_o1a (a1:Str×Bool) (a2:Int):Option ((Str×Bool)×Str):=(impl_cut a1.1 0 a2).bind fun r1=>if ¬(r1.2=true) then some ((a1.1,true),([]:Str)) else (subL a1.1 (some a2) none).bind fun s2=>some ((s2,a1.2),r1.1)
@[simp] def g16_O:((Str×Bool)×Str)→TV×List Blk:=fun r=>((.str r.2),[(.live 2 [[(.str r.1.1),(.bool r.1.2)]])])
abbrev g16_T:=(Str×Bool)×Int
def g16_E (a:g16_T):List TV:=[(.ptr 0 0 0),(.int .i64 a.2)]
def g16_B (a:g16_T):List Blk:=[(.live 2 [[(.str a.1.1),(.bool a.1.2)]])]
theorem g16_run (a1:Str×Bool) (a2:Int) :callFn (X g16_S) g16_tf (g16_E (a1,a2)) (g16_B (a1,a2))=(impl_decoder_take_o1a a1 a2).map g16_O:=by
  rw [callFn_eq]
  simp (maxSteps:=2000000) (maxDischargeDepth:=8) -implicitDefEqProofs [g16_tf,impl_decoder_take_o1a,g16_E,g16_B] <;> (try simp only [map_to_bind,some_elim,g16_O])
def g16_r:MRule:=RmO g16_E g16_B (fun a=>impl_decoder_take_o1a a.1 a.2) g16_O
theorem g16_ok:MRuleOk Tryz.prog 67 1 g16_r:=ok_rmo (S:=g16_S) (tf:=g16_tf) (SysOk.on ⟨g61_ok,trivial⟩ trivial) (trE_ok (ks:=[]) Tryz.func67 (by kernel_rfl)) (by rfl) (fun _=>by simp [g16_B]) (fun _=>by simp) fun a=>g16_run a.1 a.2
@[simp] theorem g16_app (y0 y1 y2):g16_r [(.ptr 0 0 0),(.int .i64 y2)] [(.live 2 [[(.str y0),(.bool y1)]])]=(impl_decoder_take_o1a ((y0,y1)) y2).map g16_O:=by
  exact RmO_app (enc:=g16_E) (encB:=g16_B) (by intro a b h h2;simp [g16_E,g16_B,Prod.ext_iff] at h h2 ⊢;simp [h,h2]) ((y0,y1),y2)
/-! impl.getBits -/
def g53l1_cb:TC:=(sq [bn 8 .lss (.t 7) (.t 6)] [0,3,6,7,8] (.seq (.cond (.t 8) .skip (.keep (kp [(3,0)] [] 0) (.exit 0))) (.trim [0,3,6,7] (.seq (.block 1 (sq [mo 9 7,mo 4 9] [0,3,4,6,7] (.ops [mo 10 3,mo 11 0,mo 12 4,oo 13 (.index (.t 11) (.t 12)),oo 14 (.conv (.toInt .u64) (.t 13)),mo 15 4,bn 16 .mul (ki 8) (.t 15),bn 17 .shl (.t 14) (.t 16),bn 18 .or (.t 10) (.t 17),mo 3 18]))) (.trim [0,3,6,7] (.after (.ops [bn 19 .add (.t 7) (ki 1),mo 7 19]) (kp [(0,0),(3,0),(6,0),(7,0)] [] 0)))))))
def g53l1_c:TC:=.loop [0,3,6,7] g53l1_cb
def g53_tf:TFn:=⟨(sq [mk 2 (.c (.int .u64 0))] [0] (sq [mk 3 (.c (.int .u64 0))] [0,3] (.seq (sq [mo 5 0,oo 6 (.len true (.t 5)),mk 7 (ki 0)] [0,3,6,7] (.block 0 (.keep (kp [(0,0),(3,0),(6,0),(7,0)] [] 0) g53l1_c))) (.trim [3] (.seq (.ops [mo 20 3,mo 2 20]) (.keep (kp [(2,0)] [] 0) .ret)))))),[.t 2]⟩
abbrev g53_S:=Sys.on [] []
@[reducible,simp] def g53l1_F:Int→Out:=(fun t=>(.ext 0,[(3,(.int .u64 t))],[]))
def impl_getBits_l1_b (v1:Str) (v3:Int) (v2:Int) (v4:Int):Option ((Int×Int) ⊕ (Int)):=if v4 < v3 then if 0≤v4 then (v1[(v4).toNat]?).bind fun (b5:UInt8)=>if (IntKind.i64.wrap (8 * v4)) < 0 then none else some (.inl ((bitV .or .u64 v2 ((shlV .u64 ((IntKind.u64.wrap ((b5.toNat:Int)))) ((IntKind.i64.wrap (8 * v4)))))),(IntKind.i64.wrap (v4+1)))) else none else some (.inr v2)
theorem g53l1_b_eq  (v1:Str) (v3:Int) (v2:Int) (v4:Int):X g53_S g53l1_cb (keepEnv [0,3,6,7] [(0,(.str v1)),(3,(.int .u64 v2)),(6,(.int .i64 v3)),(7,(.int .i64 v4))]) []=(impl_getBits_l1_b v1 v3 v2 v4).map (Sum.elim (fun s=>(TX.nrm,[(0,(.str v1)),(3,(.int .u64 s.1)),(6,(.int .i64 v3)),(7,(.int .i64 s.2))],[])) g53l1_F):=by
  simp (maxSteps:=2000000) (maxDischargeDepth:=8) -implicitDefEqProofs [g53l1_cb,impl_getBits_l1_b] <;> (try simp only [map_to_bind,some_elim,g53l1_F])
def impl_getBits_l1 (v1:Str) (v3:Int) (s:Int×Int):Option (Int):=loopO (fun s=>impl_getBits_l1_b v1 v3 s.1 s.2) s
@[simp] theorem g53l1_eq (y0 y1 y2 y3):X g53_S g53l1_c [(0,(.str y0)),(3,(.int .u64 y1)),(6,(.int .i64 y2)),(7,(.int .i64 y3))] []=(impl_getBits_l1 y0 y2 (y1,y3)).map g53l1_F:=by
  exact loop_X _ _ _ _ (by intro r;first | (simp;done) | (rcases r with r | r <;> simp;done) | (rcases r with r | r | r <;> simp;done) | (rcases r with r | r | r | r <;> simp)) (fun s=>g53l1_b_eq  y0 y2 s.1 s.2) (y1,y3)
def impl_getBits (a_s:Str):Option (Int):=(impl_getBits_l1 a_s ((a_s.length:Int)) ((0,0))).bind fun r6=>some r6
@[simp] def g53_O:Int→TV×List Blk:=fun r=>((.int .u64 r),[])
def g53_E (a:Str):List TV:=[(.str a)]
theorem g53_run (a_s:Str) :callFn (X g53_S) g53_tf (g53_E a_s) []=(impl_getBits a_s).map g53_O:=by
  rw [callFn_eq]
  simp (maxSteps:=2000000) (maxDischargeDepth:=8) -implicitDefEqProofs [g53_tf,impl_getBits,g53_E] <;> (try simp only [map_to_bind,some_elim,g53_O])
def g53_r:Rule:=RlO g53_E (fun a=>impl_getBits a) g53_O
theorem g53_ok:RuleOk Tryz.prog 66 g53_r:=ok_rlo (S:=g53_S) (tf:=g53_tf) (SysOk.on trivial trivial) (trE_ok (ks:=[[0,3,6,7]]) Tryz.func66 (by kernel_rfl)) fun a=>g53_run a
@[simp] theorem g53_app (y0):g53_r [(.str y0)]=(impl_getBits y0).map g53_O :=
  RlO_app (enc:=g53_E) (by intro a b h;simp [g53_E,Prod.ext_iff] at h ⊢;simp [h]) y0
/-! (*impl.decoder).number -/
def g5_tf:TFn:=⟨(sq [mk 4 (ki 0)] [0,1] (.seq (.ops [mo 5 0,mo 6 1,oo 7 (.callM 67 0 [0] [.t 5,.t 6]),ca 8 66 [.t 7],oo 9 (.conv (.toInt .i64) (.t 8)),mo 4 9]) (.keep (kp [(4,0)] [(0,0)] 1) .ret))),[.t 4]⟩
abbrev g5_S:=Sys.on [(66,g53_r)] [((67,0),(1,g16_r))]
def impl_decoder_number_o1a (a1:Str×Bool) (a2:Int):Option ((Str×Bool)×Int):=(impl_decoder_take_o1a a1 a2).bind fun r1=>(impl_getBits r1.2).bind fun r2=>some (r1.1,(IntKind.i64.wrap r2))
@[simp] def g5_O:((Str×Bool)×Int)→TV×List Blk:=fun r=>((.int .i64 r.2),[(.live 2 [[(.str r.1.1),(.bool r.1.2)]])])
abbrev g5_T:=(Str×Bool)×Int
def g5_E (a:g5_T):List TV:=[(.ptr 0 0 0),(.int .i64 a.2)]
def g5_B (a:g5_T):List Blk:=[(.live 2 [[(.str a.1.1),(.bool a.1.2)]])]
theorem g5_run (a1:Str×Bool) (a2:Int) :callFn (X g5_S) g5_tf (g5_E (a1,a2)) (g5_B (a1,a2))=(impl_decoder_number_o1a a1 a2).map g5_O:=by
  rw [callFn_eq]
  simp (maxSteps:=2000000) (maxDischargeDepth:=8) -implicitDefEqProofs [g5_tf,impl_decoder_number_o1a,g5_E,g5_B] <;> (try simp only [map_to_bind,some_elim,g5_O])
def g5_r:MRule:=RmO g5_E g5_B (fun a=>impl_decoder_number_o1a a.1 a.2) g5_O
theorem g5_ok:MRuleOk Tryz.prog 53 1 g5_r:=ok_rmo (S:=g5_S) (tf:=g5_tf) (SysOk.on ⟨g53_ok,trivial⟩ ⟨g16_ok,trivial⟩) (trE_ok (ks:=[]) Tryz.func53 (by kernel_rfl)) (by rfl) (fun _=>by simp [g5_B]) (fun _=>by simp) fun a=>g5_run a.1 a.2
@[simp] theorem g5_app (y0 y1 y2):g5_r [(.ptr 0 0 0),(.int .i64 y2)] [(.live 2 [[(.str y0),(.bool y1)]])]=(impl_decoder_number_o1a ((y0,y1)) y2).map g5_O:=by
  exact RmO_app (enc:=g5_E) (encB:=g5_B) (by intro a b h h2;simp [g5_E,g5_B,Prod.ext_iff] at h h2 ⊢;simp [h,h2]) ((y0,y1),y2)
/-! (*impl.decoder).byte -/
def g17_tf:TFn:=⟨(sq [mk 2 (ki 0)] [0] (.seq (.ops [mo 3 0,oo 4 (.callM 53 0 [0] [.t 3,ki 1]),mo 2 4]) (.keep (kp [(2,0)] [(0,0)] 1) .ret))),[.t 2]⟩
abbrev g17_S:=Sys.on [] [((53,0),(1,g5_r))]
def impl_decoder_byte_od0 (a1:Str×Bool):Option ((Str×Bool)×Int):=(impl_decoder_number_o1a a1 1).bind fun r1=>some (r1.1,r1.2)
@[simp] def g17_O:((Str×Bool)×Int)→TV×List Blk:=fun r=>((.int .i64 r.2),[(.live 2 [[(.str r.1.1),(.bool r.1.2)]])])
abbrev g17_T:=(Str×Bool)
def g17_E (a:g17_T):List TV:=[(.ptr 0 0 0)]
def g17_B (a:g17_T):List Blk:=[(.live 2 [[(.str a.1),(.bool a.2)]])]
theorem g17_run (a1:Str×Bool) :callFn (X g17_S) g17_tf (g17_E a1) (g17_B a1)=(impl_decoder_byte_od0 a1).map g17_O:=by
  rw [callFn_eq]
  simp (maxSteps:=2000000) (maxDischargeDepth:=8) -implicitDefEqProofs [g17_tf,impl_decoder_byte_od0,g17_E,g17_B] <;> (try simp only [map_to_bind,some_elim,g17_O])
def g17_r:MRule:=RmO g17_E g17_B (fun a=>impl_decoder_byte_od0 a) g17_O
theorem g17_ok:MRuleOk Tryz.prog 41 1 g17_r:=ok_rmo (S:=g17_S) (tf:=g17_tf) (SysOk.on trivial ⟨g5_ok,trivial⟩) (trE_ok (ks:=[]) Tryz.func41 (by kernel_rfl)) (by rfl) (fun _=>by simp [g17_B]) (fun _=>by simp) fun a=>g17_run a
@[simp] theorem g17_app (y0 y1):g17_r [(.ptr 0 0 0)] [(.live 2 [[(.str y0),(.bool y1)]])]=(impl_decoder_byte_od0 ((y0,y1))).map g17_O:=by
  exact RmO_app (enc:=g17_E) (encB:=g17_B) (by intro a b h h2;simp [g17_E,g17_B,Prod.ext_iff] at h h2 ⊢;simp [h,h2]) ((y0,y1))
/-! (*impl.decoder).space -/
def g9p2_c:TC:=(.after (.ops [fa 30 1 3,ld 31 30,mo 32 5,oo 33 (.bslice [(.int .i64 0)] 1 [(0,(.t 32))]),oo 34 (.append 2 1 8 (.t 31) (.t 33)),fa 35 1 3,⟨none,none,(.store 1 (.t 35) (.t 34))⟩]) (kp [(0,0),(2,0),(3,0),(4,0)] [(0,0),(1,2),(2,2),(3,1),(6,1)] 1))
def g9l1_cb:TC:=(.seq (sq [mo 8 4,bn 9 .gtr (.t 8) (ki 0),mo 10 9,⟨(some 11),(some (10,true)),(.mv (.t 0))⟩,⟨(some 12),(some (10,true)),(.nilchk (.t 11))⟩,⟨(some 13),(some (10,true)),(.faddr 1 (.t 12))⟩,⟨(some 14),(some (10,true)),(.load none (.t 13))⟩,⟨(some 15),(some (10,true)),(.un .not (.t 14))⟩,pk 16 (.t 10) (.t 15) (kb false)] [0,2,3,4,16] (.cond (.t 16) .skip (.keep (kp [(2,0),(3,0)] [(0,0),(1,2),(2,2),(3,1),(4,1)] 1) (.exit 0)))) (.trim [0,2,3,4] (.seq (.block 1 (.seq (.drawF [(none,fa 19 0 3),(none,ld 20 19),(none,mo 21 0),(some [19,20],oo 22 (.callM 41 0 [0] [.t 21])),(some [19,20],oo 23 (.bslice [(.int .i64 0)] 1 [(0,(.t 22))]))] [oo 24 (.append 2 1 8 (.t 20) (.t 23)),fa 25 0 3,⟨none,none,(.store 1 (.t 25) (.t 24))⟩]) (.trim [0,2,3,4] (sq [mo 26 0,oo 27 (.callM 41 0 [0] [.t 26]),mo 5 27] [0,2,3,4,5] (.seq (sq [mo 28 5,bn 29 .eql (.t 28) (ki 255)] [0,2,3,4,5,29] (.cond (.t 29) (.after (.ops [mk 5 (ki (-1))]) (kp [(0,0),(2,0),(3,0),(4,0),(5,0)] [(0,0),(1,2),(2,2),(6,1),(4,1)] 1)) (.keep (kp [(0,0),(2,0),(3,0),(4,0),(5,0)] [(0,0),(1,2),(2,2),(6,1),(4,1)] 1) .skip))) (.trim [0,2,3,4,5] g9p2_c)))))) (.trim [0,2,3,4] (.after (.ops [mo 17 4,bn 18 .sub (.t 17) (ki 1),mo 4 18]) (kp [(0,0),(2,0),(3,0),(4,0)] [(0,0),(1,2),(2,2),(3,1),(4,1)] 1))))))
def g9l1_c:TC:=.loop [0,2,3,4] g9l1_cb
def g9_tf:TFn:=⟨(sq [oo 2 (.alloc [.nils,.nils])] [0,2] (sq [oo 3 (.alloc [.nils,.nils])] [0,2,3] (.seq (sq [mo 6 0,oo 7 (.callM 41 0 [0] [.t 6]),mo 4 7] [0,2,3,4] (.block 0 (.keep (kp [(0,0),(2,0),(3,0),(4,0)] [(0,0),(1,2),(2,2),(1000,1),(1001,1)] 1) g9l1_c))) (.trim [2,3] (.seq (.ops [ln 36 2 3,⟨none,none,(.store 2 (.t 2) (.t 36))⟩]) (.keep (kp [(2,0)] [(0,0),(1,2),(3,1),(4,1)] 1) .ret)))))),[.cell 2 (some 2)]⟩
abbrev g9_S:=Sys.on [] [((41,0),(1,g17_r))]
@[reducible,simp] def g9p2_F:((Str×Bool)×(List Int×List Int)×Int)→Out:=(fun t=>(.nrm,[(0,(.ptr 0 0 0)),(2,(.ptr 1 0 0)),(3,(.ptr 2 0 0)),(4,(.int .i64 t.2.2))],[(.live 2 [[(.str t.1.1),(.bool t.1.2)]]),(.live 2 [[.es,.es]]),(.live 2 [[(ow 3 t.2.1.1.length),(ow 4 t.2.1.2.length)]]),(ob 1 t.2.1.1),(ob 1 t.2.1.2)]))
def impl_decoder_space_od0_p2 (v8:Str×Bool) (v9:List Int×List Int) (v10:Int) (v11:Int):Option ((Str×Bool)×(List Int×List Int)×Int):=(appL 8 v9.2 ((lit [v11]:List Int))).bind fun l12=>some ((v8,(v9.1,l12),v10))
@[simp] theorem g9p2_eq (y0 y1)(y2:List Int)(y3:List Int)(y4 y5){n1:Nat}(h1:n1=y2.length){n2:Nat}(h2:n2=y3.length):X g9_S g9p2_c [(0,(.ptr 0 0 0)),(2,(.ptr 1 0 0)),(3,(.ptr 2 0 0)),(4,(.int .i64 y4)),(5,(.int .i64 y5))] [(.live 2 [[(.str y0),(.bool y1)]]),(.live 2 [[.es,.es]]),(.live 2 [[(ow 3 n1),(ow 4 n2)]]),(ob 1 y2),(ob 1 y3)]=(impl_decoder_space_od0_p2 ((y0,y1)) ((y2,y3)) y4 y5).map g9p2_F:=by
  subst h1 h2
  simp (maxSteps:=2000000) (maxDischargeDepth:=8) -implicitDefEqProofs [g9p2_c,impl_decoder_space_od0_p2,bslV_lit (α:=Int) (zs:=[(.int .i64 0)])] <;> (try simp only [map_to_bind,some_elim,g9p2_F])
@[reducible,simp] def g9l1_F:((Str×Bool)×(List Int×List Int))→Out:=(fun t=>(.ext 0,[(2,(.ptr 1 0 0)),(3,(.ptr 2 0 0))],[(.live 2 [[(.str t.1.1),(.bool t.1.2)]]),(.live 2 [[.es,.es]]),(.live 2 [[(ow 3 t.2.1.length),(ow 4 t.2.2.length)]]),(ob 1 t.2.1),(ob 1 t.2.2)]))
def impl_decoder_space_od0_l1_b (v2:Str×Bool) (v3:List Int×List Int) (v4:Int):Option (((Str×Bool)×(List Int×List Int)×Int) ⊕ ((Str×Bool)×(List Int×List Int))):=if v4 > 0 then if ¬(v2.2=true) then (impl_decoder_byte_od0 v2).bind fun r5=>(appL 8 v3.1 ((lit [r5.2]:List Int))).bind fun l6=>(impl_decoder_byte_od0 r5.1).bind fun r7=>if r7.2=255 then (impl_decoder_space_od0_p2 r7.1 ((l6,v3.2)) v4 ((-1))).bind fun r13=>some (.inl (r13.1,r13.2.1,(IntKind.i64.wrap (r13.2.2 - 1)))) else (impl_decoder_space_od0_p2 r7.1 ((l6,v3.2)) v4 r7.2).bind fun r14=>some (.inl (r14.1,r14.2.1,(IntKind.i64.wrap (r14.2.2 - 1)))) else some (.inr (v2,v3)) else some (.inr (v2,v3))
theorem g9l1_b_eq  (v2:Str×Bool) (v3:List Int×List Int) (v4:Int):X g9_S g9l1_cb (keepEnv [0,2,3,4] [(0,(.ptr 0 0 0)),(2,(.ptr 1 0 0)),(3,(.ptr 2 0 0)),(4,(.int .i64 v4))]) [(.live 2 [[(.str v2.1),(.bool v2.2)]]),(.live 2 [[.es,.es]]),(.live 2 [[(ow 3 v3.1.length),(ow 4 v3.2.length)]]),(ob 1 v3.1),(ob 1 v3.2)]=(impl_decoder_space_od0_l1_b v2 v3 v4).map (Sum.elim (fun s=>(TX.nrm,[(0,(.ptr 0 0 0)),(2,(.ptr 1 0 0)),(3,(.ptr 2 0 0)),(4,(.int .i64 s.2.2))],[(.live 2 [[(.str s.1.1),(.bool s.1.2)]]),(.live 2 [[.es,.es]]),(.live 2 [[(ow 3 s.2.1.1.length),(ow 4 s.2.1.2.length)]]),(ob 1 s.2.1.1),(ob 1 s.2.1.2)])) g9l1_F):=by
  simp (maxSteps:=2000000) (maxDischargeDepth:=8) -implicitDefEqProofs [g9l1_cb,impl_decoder_space_od0_l1_b,bslV_lit (α:=Int) (zs:=[(.int .i64 0)])] <;> (try simp only [map_to_bind,some_elim,g9l1_F])
def impl_decoder_space_od0_l1  (s:(Str×Bool)×(List Int×List Int)×Int):Option ((Str×Bool)×(List Int×List Int)):=loopO (fun s=>impl_decoder_space_od0_l1_b  s.1 s.2.1 s.2.2) s
@[simp] theorem g9l1_eq (y0 y1)(y2:List Int)(y3:List Int)(y4){n1:Nat}(h1:n1=y2.length){n2:Nat}(h2:n2=y3.length):X g9_S g9l1_c [(0,(.ptr 0 0 0)),(2,(.ptr 1 0 0)),(3,(.ptr 2 0 0)),(4,(.int .i64 y4))] [(.live 2 [[(.str y0),(.bool y1)]]),(.live 2 [[.es,.es]]),(.live 2 [[(ow 3 n1),(ow 4 n2)]]),(ob 1 y2),(ob 1 y3)]=(impl_decoder_space_od0_l1  ((y0,y1),(y2,y3),y4)).map g9l1_F:=by
  subst h1 h2
  exact loop_X _ _ _ _ (by intro r;first | (simp;done) | (rcases r with r | r <;> simp;done) | (rcases r with r | r | r <;> simp;done) | (rcases r with r | r | r | r <;> simp)) (fun s=>g9l1_b_eq   s.1 s.2.1 s.2.2) ((y0,y1),(y2,y3),y4)
@[simp] theorem g9l1_eq_1x0_1x1 (y0 y1 y2):X g9_S g9l1_c [(0,(.ptr 0 0 0)),(2,(.ptr 1 0 0)),(3,(.ptr 2 0 0)),(4,(.int .i64 y2))] [(.live 2 [[(.str y0),(.bool y1)]]),(.live 2 [[.es,.es]]),(.live 2 [[.es,.es]]),.dead,.dead]=(impl_decoder_space_od0_l1  ((y0,y1),(([]:List Int),([]:List Int)),y2)).map g9l1_F :=
  g9l1_eq  y0 y1 ([]:List Int) ([]:List Int) y2 rfl rfl
def impl_decoder_space_od0 (a1:Str×Bool):Option ((Str×Bool)×(List Int×List Int)):=(impl_decoder_byte_od0 a1).bind fun r1=>(impl_decoder_space_od0_l1 ((r1.1,(([]:List Int),([]:List Int)),r1.2))).bind fun r15=>some (r15.1,r15.2)
@[simp] def g9_O:((Str×Bool)×(List Int×List Int))→TV×List Blk:=fun r=>((.agg [(ow 2 r.2.1.length),(ow 3 r.2.2.length)]),[(.live 2 [[(.str r.1.1),(.bool r.1.2)]]),(.live 2 [[(ow 2 r.2.1.length),(ow 3 r.2.2.length)]]),(ob 1 r.2.1),(ob 1 r.2.2)])
abbrev g9_T:=(Str×Bool)
def g9_E (a:g9_T):List TV:=[(.ptr 0 0 0)]
def g9_B (a:g9_T):List Blk:=[(.live 2 [[(.str a.1),(.bool a.2)]])]
theorem g9_run (a1:Str×Bool) :callFn (X g9_S) g9_tf (g9_E a1) (g9_B a1)=(impl_decoder_space_od0 a1).map g9_O:=by
  rw [callFn_eq]
  simp (maxSteps:=2000000) (maxDischargeDepth:=8) -implicitDefEqProofs [g9_tf,impl_decoder_space_od0,g9_E,g9_B,bslV_lit (α:=Int) (zs:=[(.int .i64 0)])] <;> (try simp only [map_to_bind,some_elim,g9_O])
def g9_r:MRule:=RmO g9_E g9_B (fun a=>impl_decoder_space_od0 a) g9_O
theorem g9_ok:MRuleOk Tryz.prog 21 1 g9_r:=ok_rmo (S:=g9_S) (tf:=g9_tf) (SysOk.on trivial ⟨g17_ok,trivial⟩) (trE_ok (ks:=[[0,2,3,4],[5,2000000,0,0,0,0,3,19,20,3,19,20]]) Tryz.func21 (by kernel_rfl)) (by rfl) (fun _=>by simp [g9_B]) (fun _=>by simp) fun a=>g9_run a
@[simp] theorem g9_app (y0 y1):g9_r [(.ptr 0 0 0)] [(.live 2 [[(.str y0),(.bool y1)]])]=(impl_decoder_space_od0 ((y0,y1))).map g9_O:=by
  exact RmO_app (enc:=g9_E) (encB:=g9_B) (by intro a b h h2;simp [g9_E,g9_B,Prod.ext_iff] at h h2 ⊢;simp [h,h2]) ((y0,y1))
/-! impl.DecodeSpace -/
def g31_tf:TFn:=⟨(sq [oo 2 (.alloc [.nils,.nils]),mk 3 (kb false)] [0,2] (sq [mo 6 0,oo 7 (.build [(.str []),(.bool false)] [(0,1,(.t 6))]),bx 8 7,mo 4 8] [2,4] (sq [mo 9 4,oo 10 (.callM 21 0 [1] [.t 9]),oo 5 (.alloc [.nils,.nils]),⟨none,none,(.store 2 (.t 5) (.t 10))⟩] [2,4,5] (.seq (sq [mo 11 4,nk 12 11,fa 13 1 12,ld 14 13,mo 15 14,⟨(some 16),(some (15,false)),(.mv (.t 4))⟩,⟨(some 17),(some (15,false)),(.nilchk (.t 16))⟩,⟨(some 18),(some (15,false)),(.faddr 0 (.t 17))⟩,⟨(some 19),(some (15,false)),(.load none (.t 18))⟩,⟨(some 20),(some (15,false)),(.bin .str .neq (.t 19) (.c (.str [])))⟩,pk 21 (.t 15) (kb true) (.t 20),mo 22 21,⟨(some 23),(some (22,false)),(.load (some 2) (.t 5))⟩,⟨(some 24),(some (22,false)),(.call 17 [.t 23])⟩,⟨(some 25),(some (22,false)),(.un .not (.t 24))⟩,pk 26 (.t 22) (kb true) (.t 25)] [2,5,26] (.cond (.t 26) (.seq (.ops [oo 27 (.build [.nils,.nils] []),⟨none,none,(.store 2 (.t 2) (.t 27))⟩,mk 3 (kb false)]) (.keep (kp [(2,0),(3,0)] [(0,2),(1000,1),(1001,1)] 0) .ret)) .skip)) (.trim [2,5] (.seq (.ops [ln 28 2 5,⟨none,none,(.store 2 (.t 2) (.t 28))⟩,mk 3 (kb true)]) (.keep (kp [(2,0),(3,0)] [(0,2),(3,1),(4,1)] 0) .ret))))))),[.cell 2 (some 2),.t 3]⟩
abbrev g31_S:=Sys.on [(17,g34_r)] [((21,0),(1,g9_r))]
def impl_DecodeSpace (a_s:Str):Option ((List Int×List Int)×Bool):=(impl_decoder_space_od0 ((a_s,false))).bind fun r1=>if r1.1.2=true then some ((([]:List Int),([]:List Int)),false) else if ¬(r1.1.1=([]:Str)) then some ((([]:List Int),([]:List Int)),false) else (impl_ValidSpace r1.2).bind fun r2=>if ¬(r2=true) then some ((([]:List Int),([]:List Int)),false) else some (r1.2,true)
@[simp] def g31_O:((List Int×List Int)×Bool)→TV×List Blk:=fun r=>((.tup [(.agg [(ow 1 r.1.1.length),(ow 2 r.1.2.length)]),(.bool r.2)]),[(.live 2 [[(ow 1 r.1.1.length),(ow 2 r.1.2.length)]]),(ob 1 r.1.1),(ob 1 r.1.2)])
def g31_E (a:Str):List TV:=[(.str a)]
theorem g31_run (a_s:Str) :callFn (X g31_S) g31_tf (g31_E a_s) []=(impl_DecodeSpace a_s).map g31_O:=by
  rw [callFn_eq]
  simp (maxSteps:=2000000) (maxDischargeDepth:=8) -implicitDefEqProofs [g31_tf,impl_DecodeSpace,g31_E] <;> (try simp only [map_to_bind,some_elim,g31_O])
def g31_r:Rule:=RlO g31_E (fun a=>impl_DecodeSpace a) g31_O
theorem g31_ok:RuleOk Tryz.prog 8 g31_r:=ok_rlo (S:=g31_S) (tf:=g31_tf) (SysOk.on ⟨g34_ok,trivial⟩ ⟨g9_ok,trivial⟩) (trE_ok (ks:=[]) Tryz.func8 (by kernel_rfl)) fun a=>g31_run a
@[simp] theorem g31_app (y0):g31_r [(.str y0)]=(impl_DecodeSpace y0).map g31_O :=
  RlO_app (enc:=g31_E) (by intro a b h;simp [g31_E,Prod.ext_iff] at h ⊢;simp [h]) y0
/-! internal/stringslite.HasPrefix -/
def g2_tf:TFn:=⟨(sq [mk 4 (kb false)] [0,1] (.seq (.after (.ops [mo 5 0,oo 6 (.len true (.t 5)),mo 7 1,oo 8 (.len true (.t 7)),bn 9 .geq (.t 6) (.t 8),mo 10 9,⟨(some 11),(some (10,true)),(.mv (.t 0))⟩,⟨(some 12),(some (10,true)),(.mv (.t 1))⟩,⟨(some 13),(some (10,true)),(.len true (.t 12))⟩,⟨(some 14),(some (10,true)),(.sliceS (.t 11) none (some (.t 13)))⟩,⟨(some 15),(some (10,true)),(.mv (.t 1))⟩,⟨(some 16),(some (10,true)),(.bin .str .eql (.t 14) (.t 15))⟩,pk 17 (.t 10) (.t 16) (kb false),mo 4 17]) (kp [(4,0)] [] 0)) (.keep (kp [(4,0)] [] 0) .ret))),[.t 4]⟩
abbrev g2_S:=Sys.on [] []
def internal_stringslite_HasPrefix (a_s:Str) (a_prefix:Str):Option (Bool):=if (a_s.length:Int) ≥ (a_prefix.length:Int) then (subL a_s none (some ((a_prefix.length:Int)))).bind fun s1=>some ((decide (s1=a_prefix))) else some false
@[simp] def g2_O:Bool→TV×List Blk:=fun r=>((.bool r),[])
def g2_E (a:Str×Str):List TV:=[(.str a.1),(.str a.2)]
theorem g2_run (a_s:Str) (a_prefix:Str) :callFn (X g2_S) g2_tf (g2_E (a_s,a_prefix)) []=(internal_stringslite_HasPrefix a_s a_prefix).map g2_O:=by
  rw [callFn_eq]
  simp (maxSteps:=2000000) (maxDischargeDepth:=8) -implicitDefEqProofs [g2_tf,internal_stringslite_HasPrefix,g2_E] <;> (try simp only [map_to_bind,some_elim,g2_O])
def g2_r:Rule:=RlO g2_E (fun a=>internal_stringslite_HasPrefix a.1 a.2) g2_O
theorem g2_ok:RuleOk Tryz.prog 79 g2_r:=ok_rlo (S:=g2_S) (tf:=g2_tf) (SysOk.on trivial trivial) (trE_ok (ks:=[]) Tryz.func79 (by kernel_rfl)) fun a=>g2_run a.1 a.2
@[simp] theorem g2_app (y0 y1):g2_r [(.str y0),(.str y1)]=(internal_stringslite_HasPrefix y0 y1).map g2_O :=
  RlO_app (enc:=g2_E) (by intro a b h;simp [g2_E,Prod.ext_iff] at h ⊢;simp [h]) (y0,y1)
/-! internal/stringslite.CutPrefix -/
def g3_tf:TFn:=⟨(sq [mk 4 (.c (.str [])),mk 5 (kb false)] [0,1] (.seq (sq [mo 6 0,mo 7 1,ca 8 79 [.t 6,.t 7],nt 9 8] [0,1,9] (.cond (.t 9) (.seq (.ops [mo 10 0,mo 4 10,mk 5 (kb false)]) (.keep (kp [(4,0),(5,0)] [] 0) .ret)) .skip)) (.trim [0,1] (.seq (.ops [mo 11 0,mo 12 1,oo 13 (.len true (.t 12)),oo 14 (.sliceS (.t 11) (some (.t 13)) none),mo 4 14,mk 5 (kb true)]) (.keep (kp [(4,0),(5,0)] [] 0) .ret))))),[.t 4,.t 5]⟩
abbrev g3_S:=Sys.on [(79,g2_r)] []
def internal_stringslite_CutPrefix (a_s:Str) (a_prefix:Str):Option (Str×Bool):=(internal_stringslite_HasPrefix a_s a_prefix).bind fun r1=>if ¬(r1=true) then some (a_s,false) else (subL a_s (some ((a_prefix.length:Int))) none).bind fun s2=>some (s2,true)
@[simp] def g3_O:(Str×Bool)→TV×List Blk:=fun r=>((.tup [(.str r.1),(.bool r.2)]),[])
def g3_E (a:Str×Str):List TV:=[(.str a.1),(.str a.2)]
theorem g3_run (a_s:Str) (a_prefix:Str) :callFn (X g3_S) g3_tf (g3_E (a_s,a_prefix)) []=(internal_stringslite_CutPrefix a_s a_prefix).map g3_O:=by
  rw [callFn_eq]
  simp (maxSteps:=2000000) (maxDischargeDepth:=8) -implicitDefEqProofs [g3_tf,internal_stringslite_CutPrefix,g3_E] <;> (try simp only [map_to_bind,some_elim,g3_O])
def g3_r:Rule:=RlO g3_E (fun a=>internal_stringslite_CutPrefix a.1 a.2) g3_O
theorem g3_ok:RuleOk Tryz.prog 68 g3_r:=ok_rlo (S:=g3_S) (tf:=g3_tf) (SysOk.on ⟨g2_ok,trivial⟩ trivial) (trE_ok (ks:=[]) Tryz.func68 (by kernel_rfl)) fun a=>g3_run a.1 a.2
@[simp] theorem g3_app (y0 y1):g3_r [(.str y0),(.str y1)]=(internal_stringslite_CutPrefix y0 y1).map g3_O :=
  RlO_app (enc:=g3_E) (by intro a b h;simp [g3_E,Prod.ext_iff] at h ⊢;simp [h]) (y0,y1)
/-! strings.CutPrefix -/
def g27_tf:TFn:=⟨(sq [mk 4 (.c (.str [])),mk 5 (kb false)] [0,1] (.seq (.ops [mo 6 0,mo 7 1,ca 8 68 [.t 6,.t 7],oo 9 (.ext (.t 8) 0),oo 10 (.ext (.t 8) 1),mo 4 9,mo 5 10]) (.keep (kp [(4,0),(5,0)] [] 0) .ret))),[.t 4,.t 5]⟩
abbrev g27_S:=Sys.on [(68,g3_r)] []
def strings_CutPrefix (a_s:Str) (a_prefix:Str):Option (Str×Bool):=(internal_stringslite_CutPrefix a_s a_prefix).bind fun r1=>some (r1.1,r1.2)
@[simp] def g27_O:(Str×Bool)→TV×List Blk:=fun r=>((.tup [(.str r.1),(.bool r.2)]),[])
def g27_E (a:Str×Str):List TV:=[(.str a.1),(.str a.2)]
theorem g27_run (a_s:Str) (a_prefix:Str) :callFn (X g27_S) g27_tf (g27_E (a_s,a_prefix)) []=(strings_CutPrefix a_s a_prefix).map g27_O:=by
  rw [callFn_eq]
  simp (maxSteps:=2000000) (maxDischargeDepth:=8) -implicitDefEqProofs [g27_tf,strings_CutPrefix,g27_E] <;> (try simp only [map_to_bind,some_elim,g27_O])
def g27_r:Rule:=RlO g27_E (fun a=>strings_CutPrefix a.1 a.2) g27_O
theorem g27_ok:RuleOk Tryz.prog 54 g27_r:=ok_rlo (S:=g27_S) (tf:=g27_tf) (SysOk.on ⟨g3_ok,trivial⟩ trivial) (trE_ok (ks:=[]) Tryz.func54 (by kernel_rfl)) fun a=>g27_run a.1 a.2
@[simp] theorem g27_app (y0 y1):g27_r [(.str y0),(.str y1)]=(strings_CutPrefix y0 y1).map g27_O :=
  RlO_app (enc:=g27_E) (by intro a b h;simp [g27_E,Prod.ext_iff] at h ⊢;simp [h]) (y0,y1)
/-! (*impl.scanner).accept -/
def g6_tf:TFn:=⟨(sq [mk 4 (kb false)] [0,1] (sq [mo 8 0,nk 9 8,fa 10 0 9,ld 11 10,mo 12 1,ca 13 54 [.t 11,.t 12],mo 7 13,oo 14 (.ext (.t 7) 0),oo 15 (.ext (.t 7) 1),mo 5 14,mo 6 15] [0,5,6] (sq [mo 16 0,mo 17 5,nk 18 16,fa 19 0 18,⟨none,none,(.store 1 (.t 19) (.t 17))⟩] [6] (.seq (.ops [mo 20 6,mo 4 20]) (.keep (kp [(4,0)] [(0,0)] 1) .ret))))),[.t 4]⟩
abbrev g6_S:=Sys.on [(54,g27_r)] []
def impl_scanner_accept_o0b (a1:Str×Bool) (a2:Str):Option ((Str×Bool)×Bool):=(strings_CutPrefix a1.1 a2).bind fun r1=>some ((r1.1,a1.2),r1.2)
@[simp] def g6_O:((Str×Bool)×Bool)→TV×List Blk:=fun r=>((.bool r.2),[(.live 2 [[(.str r.1.1),(.bool r.1.2)]])])
abbrev g6_T:=(Str×Bool)×Str
def g6_E (a:g6_T):List TV:=[(.ptr 0 0 0),(.str a.2)]
def g6_B (a:g6_T):List Blk:=[(.live 2 [[(.str a.1.1),(.bool a.1.2)]])]
theorem g6_run (a1:Str×Bool) (a2:Str) :callFn (X g6_S) g6_tf (g6_E (a1,a2)) (g6_B (a1,a2))=(impl_scanner_accept_o0b a1 a2).map g6_O:=by
  rw [callFn_eq]
  simp (maxSteps:=2000000) (maxDischargeDepth:=8) -implicitDefEqProofs [g6_tf,impl_scanner_accept_o0b,g6_E,g6_B] <;> (try simp only [map_to_bind,some_elim,g6_O])
def g6_r:MRule:=RmO g6_E g6_B (fun a=>impl_scanner_accept_o0b a.1 a.2) g6_O
theorem g6_ok:MRuleOk Tryz.prog 43 1 g6_r:=ok_rmo (S:=g6_S) (tf:=g6_tf) (SysOk.on ⟨g27_ok,trivial⟩ trivial) (trE_ok (ks:=[]) Tryz.func43 (by kernel_rfl)) (by rfl) (fun _=>by simp [g6_B]) (fun _=>by simp) fun a=>g6_run a.1 a.2
@[simp] theorem g6_app (y0 y1 y2):g6_r [(.ptr 0 0 0),(.str y2)] [(.live 2 [[(.str y0),(.bool y1)]])]=(impl_scanner_accept_o0b ((y0,y1)) y2).map g6_O:=by
  exact RmO_app (enc:=g6_E) (encB:=g6_B) (by intro a b h h2;simp [g6_E,g6_B,Prod.ext_iff] at h h2 ⊢;simp [h,h2]) ((y0,y1),y2)
/-! (*impl.scanner).expect -/
def g7_tf:TFn:=⟨(sq [mo 4 0,mo 5 1,oo 6 (.callM 43 0 [0] [.t 4,.t 5]),nt 7 6] [0,7] (.cond (.t 7) (.after (.ops [mo 8 0,nk 9 8,fa 10 1 9,⟨none,none,(.store 1 (.t 10) (kb true))⟩]) (kp [] [(0,0)] 1)) (.keep (kp [] [(0,0)] 1) .skip))),[]⟩
abbrev g7_S:=Sys.on [] [((43,0),(1,g6_r))]
def impl_scanner_expect_o0b (a1:Str×Bool) (a2:Str):Option ((Str×Bool)):=(impl_scanner_accept_o0b a1 a2).bind fun r1=>if ¬(r1.2=true) then some ((r1.1.1,true)) else some r1.1
@[simp] def g7_O:((Str×Bool))→TV×List Blk:=fun r=>((.tup []),[(.live 2 [[(.str r.1),(.bool r.2)]])])
abbrev g7_T:=(Str×Bool)×Str
def g7_E (a:g7_T):List TV:=[(.ptr 0 0 0),(.str a.2)]
def g7_B (a:g7_T):List Blk:=[(.live 2 [[(.str a.1.1),(.bool a.1.2)]])]
theorem g7_run (a1:Str×Bool) (a2:Str) :callFn (X g7_S) g7_tf (g7_E (a1,a2)) (g7_B (a1,a2))=(impl_scanner_expect_o0b a1 a2).map g7_O:=by
  rw [callFn_eq]
  simp (maxSteps:=2000000) (maxDischargeDepth:=8) -implicitDefEqProofs [g7_tf,impl_scanner_expect_o0b,g7_E,g7_B] <;> (try simp only [map_to_bind,some_elim,g7_O])
def g7_r:MRule:=RmO g7_E g7_B (fun a=>impl_scanner_expect_o0b a.1 a.2) g7_O
theorem g7_ok:MRuleOk Tryz.prog 42 1 g7_r:=ok_rmo (S:=g7_S) (tf:=g7_tf) (SysOk.on trivial ⟨g6_ok,trivial⟩) (trE_ok (ks:=[]) Tryz.func42 (by kernel_rfl)) (by rfl) (fun _=>by simp [g7_B]) (fun _=>by simp) fun a=>g7_run a.1 a.2
@[simp] theorem g7_app (y0 y1 y2):g7_r [(.ptr 0 0 0),(.str y2)] [(.live 2 [[(.str y0),(.bool y1)]])]=(impl_scanner_expect_o0b ((y0,y1)) y2).map g7_O:=by
  exact RmO_app (enc:=g7_E) (encB:=g7_B) (by intro a b h h2;simp [g7_E,g7_B,Prod.ext_iff] at h h2 ⊢;simp [h,h2]) ((y0,y1),y2)
/-! impl.isDigit -/
def g54_tf:TFn:=⟨(sq [mk 2 (kb false)] [0] (.seq (.after (.ops [mo 3 0,oo 4 (.bin .num .geq (.t 3) (.c (.int .u8 48))),mo 5 4,⟨(some 6),(some (5,true)),(.mv (.t 0))⟩,⟨(some 7),(some (5,true)),(.bin .num .leq (.t 6) (.c (.int .u8 57)))⟩,pk 8 (.t 5) (.t 7) (kb false),mo 2 8]) (kp [(2,0)] [] 0)) (.keep (kp [(2,0)] [] 0) .ret))),[.t 2]⟩
abbrev g54_S:=Sys.on [] []
def impl_isDigit (a_c:Int):Option (Bool):=if a_c ≥ 48 then some ((decide (a_c≤57))) else some false
@[simp] def g54_O:Bool→TV×List Blk:=fun r=>((.bool r),[])
def g54_E (a:Int):List TV:=[(.int .u8 a)]
theorem g54_run (a_c:Int) :callFn (X g54_S) g54_tf (g54_E a_c) []=(impl_isDigit a_c).map g54_O:=by
  rw [callFn_eq]
  simp (maxSteps:=2000000) (maxDischargeDepth:=8) -implicitDefEqProofs [g54_tf,impl_isDigit,g54_E] <;> (try simp only [map_to_bind,some_elim,g54_O])
def g54_r:Rule:=RlO g54_E (fun a=>impl_isDigit a) g54_O
theorem g54_ok:RuleOk Tryz.prog 58 g54_r:=ok_rlo (S:=g54_S) (tf:=g54_tf) (SysOk.on trivial trivial) (trE_ok (ks:=[]) Tryz.func58 (by kernel_rfl)) fun a=>g54_run a
@[simp] theorem g54_app (y0):g54_r [(.int .u8 y0)]=(impl_isDigit y0).map g54_O :=
  RlO_app (enc:=g54_E) (by intro a b h;simp [g54_E,Prod.ext_iff] at h ⊢;simp [h]) y0
/-! (*impl.scanner).number.1 -/
def g10_tf:TFn:=⟨(sq [mk 2 (kb false)] [0] (.seq (.after (.ops [mo 3 0,ca 4 58 [.t 3],mo 5 4,⟨(some 6),(some (5,false)),(.mv (.t 0))⟩,⟨(some 7),(some (5,false)),(.bin .num .eql (.t 6) (.c (.int .u8 45)))⟩,pk 8 (.t 5) (kb true) (.t 7),mo 2 8]) (kp [(2,0)] [] 0)) (.keep (kp [(2,0)] [] 0) .ret))),[.t 2]⟩
abbrev g10_S:=Sys.on [(58,g54_r)] []
def impl_scanner_number_c1 (a_c:Int):Option (Bool):=(impl_isDigit a_c).bind fun r1=>if r1=true then some true else some ((decide (a_c=45)))
@[simp] def g10_O:Bool→TV×List Blk:=fun r=>((.bool r),[])
def g10_E (a:Int):List TV:=[(.int .u8 a)]
theorem g10_run (a_c:Int) :callFn (X g10_S) g10_tf (g10_E a_c) []=(impl_scanner_number_c1 a_c).map g10_O:=by
  rw [callFn_eq]
  simp (maxSteps:=2000000) (maxDischargeDepth:=8) -implicitDefEqProofs [g10_tf,impl_scanner_number_c1,g10_E] <;> (try simp only [map_to_bind,some_elim,g10_O])
def g10_r:Rule:=RlO g10_E (fun a=>impl_scanner_number_c1 a) g10_O
theorem g10_ok:RuleOk Tryz.prog 57 g10_r:=ok_rlo (S:=g10_S) (tf:=g10_tf) (SysOk.on ⟨g54_ok,trivial⟩ trivial) (trE_ok (ks:=[]) Tryz.func57 (by kernel_rfl)) fun a=>g10_run a
@[simp] theorem g10_app (y0):g10_r [(.int .u8 y0)]=(impl_scanner_number_c1 y0).map g10_O :=
  RlO_app (enc:=g10_E) (by intro a b h;simp [g10_E,Prod.ext_iff] at h ⊢;simp [h]) y0
/-! (*impl.scanner).while -/
def g11l1_cb:TC:=(.seq (sq [mo 7 5,mo 8 0,nk 9 8,fa 10 0 9,ld 11 10,oo 12 (.len true (.t 11)),bn 13 .lss (.t 7) (.t 12),mo 14 13,⟨(some 15),(some (14,true)),(.mv (.t 1))⟩,⟨(some 16),(some (14,true)),(.mv (.t 0))⟩,⟨(some 17),(some (14,true)),(.nilchk (.t 16))⟩,⟨(some 18),(some (14,true)),(.faddr 0 (.t 17))⟩,⟨(some 19),(some (14,true)),(.load none (.t 18))⟩,⟨(some 20),(some (14,true)),(.mv (.t 5))⟩,⟨(some 21),(some (14,true)),(.index (.t 19) (.t 20))⟩,⟨(some 22),(some (14,true)),(.callv (.t 15) [.t 21])⟩,pk 23 (.t 14) (.t 22) (kb false)] [0,1,5,23] (.cond (.t 23) .skip (.keep (kp [(0,0),(5,0)] [(0,0)] 1) (.exit 0)))) (.trim [0,1,5] (.block 1 (.after (.ops [mo 24 5,bn 25 .add (.t 24) (ki 1),mo 5 25]) (kp [(0,0),(1,0),(5,0)] [(0,0)] 1)))))
def g11l1_c:TC:=.loop [0,1,5] g11l1_cb
def g11_tf:TFn:=⟨(sq [mk 4 (.c (.str []))] [0,1] (sq [mk 5 (ki 0)] [0,1,5] (.seq (.block 0 (.keep (kp [(0,0),(1,0),(5,0)] [(0,0)] 1) g11l1_c)) (.trim [0,5] (sq [mo 26 0,nk 27 26,fa 28 0 27,ld 29 28,mo 30 5,oo 31 (.sliceS (.t 29) none (some (.t 30))),mo 6 31] [0,5,6] (sq [mo 32 0,mo 33 0,nk 34 33,fa 35 0 34,ld 36 35,mo 37 5,oo 38 (.sliceS (.t 36) (some (.t 37)) none),nk 39 32,fa 40 0 39,⟨none,none,(.store 1 (.t 40) (.t 38))⟩] [6] (.seq (.ops [mo 41 6,mo 4 41]) (.keep (kp [(4,0)] [(0,0)] 1) .ret)))))))),[.t 4]⟩
abbrev g11_S:=Sys.on [(57,g10_r)] []
@[reducible,simp] def g11l1_F:((Str×Bool)×Int)→Out:=(fun t=>(.ext 0,[(0,(.ptr 0 0 0)),(5,(.int .i64 t.2))],[(.live 2 [[(.str t.1.1),(.bool t.1.2)]])]))
def impl_scanner_while_o53_l1_b (v1:Str×Bool) (v2:Int):Option ((Int) ⊕ ((Str×Bool)×Int)):=if v2 < (v1.1.length:Int) then if 0≤v2 then (v1.1[(v2).toNat]?).bind fun (b3:UInt8)=>(impl_scanner_number_c1 ((b3.toNat:Int))).bind fun r4=>if r4=true then some (.inl ((IntKind.i64.wrap (v2+1)))) else some (.inr (v1,v2)) else none else some (.inr (v1,v2))
theorem g11l1_b_eq  (v1:Str×Bool) (v2:Int):X g11_S g11l1_cb (keepEnv [0,1,5] [(0,(.ptr 0 0 0)),(1,(.fn 57 [] [])),(5,(.int .i64 v2))]) [(.live 2 [[(.str v1.1),(.bool v1.2)]])]=(impl_scanner_while_o53_l1_b v1 v2).map (Sum.elim (fun s=>(TX.nrm,[(0,(.ptr 0 0 0)),(1,(.fn 57 [] [])),(5,(.int .i64 s))],[(.live 2 [[(.str v1.1),(.bool v1.2)]])])) g11l1_F):=by
  simp (maxSteps:=2000000) (maxDischargeDepth:=8) -implicitDefEqProofs [g11l1_cb,impl_scanner_while_o53_l1_b] <;> (try simp only [map_to_bind,some_elim,g11l1_F])
def impl_scanner_while_o53_l1 (v1:Str×Bool) (s:Int):Option ((Str×Bool)×Int):=loopO (fun s=>impl_scanner_while_o53_l1_b v1 s) s
@[simp] theorem g11l1_eq (y0 y1 y2):X g11_S g11l1_c [(0,(.ptr 0 0 0)),(1,(.fn 57 [] [])),(5,(.int .i64 y2))] [(.live 2 [[(.str y0),(.bool y1)]])]=(impl_scanner_while_o53_l1 ((y0,y1)) y2).map g11l1_F:=by
  exact loop_X _ _ _ _ (by intro r;first | (simp;done) | (rcases r with r | r <;> simp;done) | (rcases r with r | r | r <;> simp;done) | (rcases r with r | r | r | r <;> simp)) (fun s=>g11l1_b_eq  ((y0,y1)) s) y2
def impl_scanner_while_o53 (a1:Str×Bool):Option ((Str×Bool)×Str):=(impl_scanner_while_o53_l1 a1 0).bind fun r5=>(subL r5.1.1 none (some r5.2)).bind fun s6=>(subL r5.1.1 (some r5.2) none).bind fun s7=>some ((s7,r5.1.2),s6)
@[simp] def g11_O:((Str×Bool)×Str)→TV×List Blk:=fun r=>((.str r.2),[(.live 2 [[(.str r.1.1),(.bool r.1.2)]])])
abbrev g11_T:=(Str×Bool)
def g11_E (a:g11_T):List TV:=[(.ptr 0 0 0),(.fn 57 [] [])]
def g11_B (a:g11_T):List Blk:=[(.live 2 [[(.str a.1),(.bool a.2)]])]
theorem g11_run (a1:Str×Bool) :callFn (X g11_S) g11_tf (g11_E a1) (g11_B a1)=(impl_scanner_while_o53 a1).map g11_O:=by
  rw [callFn_eq]
  simp (maxSteps:=2000000) (maxDischargeDepth:=8) -implicitDefEqProofs [g11_tf,impl_scanner_while_o53,g11_E,g11_B] <;> (try simp only [map_to_bind,some_elim,g11_O])
def g11_r:MRule:=RmO g11_E g11_B (fun a=>impl_scanner_while_o53 a) g11_O
theorem g11_ok:MRuleOk Tryz.prog 56 1 g11_r:=ok_rmo (S:=g11_S) (tf:=g11_tf) (SysOk.on ⟨g10_ok,trivial⟩ trivial) (trE_ok (ks:=[[0,1,5]]) Tryz.func56 (by kernel_rfl)) (by rfl) (fun _=>by simp [g11_B]) (fun _=>by simp) fun a=>g11_run a
@[simp] theorem g11_app (y0 y1):g11_r [(.ptr 0 0 0),(.fn 57 [] [])] [(.live 2 [[(.str y0),(.bool y1)]])]=(impl_scanner_while_o53 ((y0,y1))).map g11_O:=by
  exact RmO_app (enc:=g11_E) (encB:=g11_B) (by intro a b h h2;simp [g11_E,g11_B,Prod.ext_iff] at h h2 ⊢;simp [h,h2]) ((y0,y1))
end
end Go.Proofs.TM
