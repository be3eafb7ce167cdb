/- Functions of the program, as functions of their data: written by program. -/
import Derived.Test.YtlajjnljeebkkaaDoorRS1
namespace Go.Proofs.TM
open Go Go.Proofs
set_option linter.unusedVariables false
set_option linter.unusedSimpArgs false
set_option maxHeartbeats 1000000
attribute [-simp] Option.map_bind strV_some
attribute [simp] guardOn_bool sA_bslice Function.comp_def
noncomputable section
/-! strconv.FormatInt -/
noncomputable def strconv_FormatInt (n:Int):Option Str:=fmtS n
noncomputable def strconv_FormatInt_r:Rule:=fmt_r
@[simp] theorem strconv_FormatInt_app (y0):strconv_FormatInt_r [.int .i64 y0,.int .i64 10]=(strconv_FormatInt y0).map (fun r=>(.str r,[])):=fmtS_app y0
/-! impl.decimal -/
def g34_tf:TFn:=⟨(sq [mk 2 (.c (.str []))] [0] (.seq (.ops [mo 3 0,ca 4 130 [.t 3,ki 10],mo 2 4]) (.keep (kp [(2,0)] [] 0) .ret))),[.t 2]⟩
abbrev g34_S:=Sys.on [(130,strconv_FormatInt_r)] []
def impl_decimal (a_n:Int):Option (Str):=(strconv_FormatInt a_n).bind fun r1=>some r1
@[simp] def g34_O:Str→TV×List Blk:=fun r=>((.str r),[])
def g34_E (a:Int):List TV:=[(.int .i64 a)]
theorem g34_run (a_n:Int) :callFn (X g34_S) g34_tf (g34_E a_n) []=(impl_decimal a_n).map g34_O:=by
  rw [callFn_eq]
  simp (maxSteps:=2000000) (maxDischargeDepth:=8) -implicitDefEqProofs [g34_tf,impl_decimal,g34_E] <;> (try simp only [map_to_bind,some_elim,g34_O])
def g34_r:Rule:=RlO g34_E (fun a=>impl_decimal a) g34_O
theorem g34_ok:RuleOk Tryd.prog 92 g34_r:=ok_rlo (S:=g34_S) (tf:=g34_tf) (SysOk.on ⟨strconv_FormatInt_ok,trivial⟩ trivial) (trE_ok (ks:=[]) Tryd.func92 (by kernel_rfl)) fun a=>g34_run a
@[simp] theorem g34_app (y0):g34_r [(.int .i64 y0)]=(impl_decimal y0).map g34_O :=
  RlO_app (enc:=g34_E) (by intro a b h;simp [g34_E,Prod.ext_iff] at h ⊢;simp [h]) y0
/-! strings.Join -/
noncomputable def strings_Join (l:List Str) (s:Str):Option Str:=joinS l s
noncomputable def strings_Join_r:Rule:=join_r
@[simp] theorem strings_Join_app (y0 y1):strings_Join_r [.vs (rows y0),.str y1]=(strings_Join y0 y1).map (fun r=>(.str r,[])):=joinS_app y0 y1
/-! (impl.Space).text -/
def g18p2_c:TC:=(.after (.ops [mo 38 3,mo 39 6,oo 40 (.bslice [(.str [])] 1 [(0,(.t 39))]),oo 41 (.append 9 1 16 (.t 38) (.t 40)),mo 3 41]) (kp [(1,0),(3,1),(8,0),(9,0),(10,0)] [(0,0),(3,1)] 0))
def g18l1_cb:TC:=(sq [bn 11 .lss (.t 10) (.t 9)] [1,3,8,9,10,11] (.seq (.cond (.t 11) .skip (.keep (kp [(3,1)] [(1,1)] 0) (.exit 0))) (.trim [1,3,8,9,10] (.seq (.block 1 (sq [mo 12 10,ia 13 1 8 10,ld 14 13,mo 4 12,mo 5 14] [1,3,4,5,8,9,10] (sq [mo 15 5,ca 16 92 [.t 15],mo 6 16] [1,3,4,5,6,8,9,10] (.seq (sq [fa 17 1 1,ld 18 17,mo 19 4,ia 20 1 18 19,ld 21 20] [1,3,4,5,6,8,9,10,21] (.block 2 (sq [bn 32 .eql (.t 21) (ki (-1)),mo 31 32] [1,3,4,5,6,8,9,10,21,31] (.cond (.t 31) (.after (.ops [mo 33 6,oo 34 (.bin .str .add (.t 33) (.c (.str [47,42]))),mo 6 34]) (kp [(1,0),(3,1),(6,0),(8,0),(9,0),(10,0)] [(0,0),(1,1)] 0)) (sq [mo 36 5,bn 37 .eql (.t 21) (.t 36),mo 35 37] [1,3,4,6,8,9,10,35] (.cond (.t 35) (.keep (kp [(1,0),(3,1),(6,0),(8,0),(9,0),(10,0)] [(0,0),(1,1)] 0) .skip) (.after (.ops [mo 22 6,fa 23 1 1,ld 24 23,mo 25 4,ia 26 1 24 25,ld 27 26,ca 28 92 [.t 27],oo 29 (.bin .str .add (.c (.str [47])) (.t 28)),oo 30 (.bin .str .add (.t 22) (.t 29)),mo 6 30]) (kp [(1,0),(3,1),(6,0),(8,0),(9,0),(10,0)] [(0,0),(1,1)] 0)))))))) (.trim [1,3,6,8,9,10] g18p2_c))))) (.trim [1,3,8,9,10] (.after (.ops [bn 42 .add (.t 10) (ki 1),mo 10 42]) (kp [(1,0),(3,1),(8,0),(9,0),(10,0)] [(0,0),(1,1)] 0)))))))
def g18l1_c:TC:=.loop [1,3,8,9,10] g18l1_cb
def g18_tf:TFn:=⟨(sq [bx 1 0,mk 2 (.c (.str []))] [1] (sq [mk 3 (.c .nils)] [1,3] (.seq (sq [fa 7 0 1,ld 8 7,le 9 8,mk 10 (ki 0)] [1,3,8,9,10] (.block 0 (.keep (kp [(1,0),(3,1),(8,0),(9,0),(10,0)] [(0,0),(1000,1)] 0) g18l1_c))) (.trim [3] (.seq (.ops [mo 43 3,oo 44 (.call 85 [.t 43,(.c (.str [44]))]),oo 45 (.bin .str .add (.c (.str [40])) (.t 44)),oo 46 (.bin .str .add (.t 45) (.c (.str [41]))),mo 2 46]) (.keep (kp [(2,0)] [] 0) .ret)))))),[.t 2]⟩
abbrev g18_S:=Sys.on [(92,g34_r),(85,strings_Join_r)] []
@[reducible,simp] def g18p2_F:((List Int×List Int)×List Str×List Int×Int×Int)→Out:=(fun t=>(.nrm,[(1,(.ptr 0 0 0)),(3,(ow 1 t.2.1.length)),(8,(.vs (rows t.2.2.1))),(9,(.int .i64 t.2.2.2.1)),(10,(.int .i64 t.2.2.2.2))],[(.live 2 [[(.vs (rows t.1.1)),(.vs (rows t.1.2))]]),(ob 1 t.2.1)]))
def impl_Space_text_p2 (v11:List Int×List Int) (v12:List Str) (v13:Str) (v14:List Int) (v15:Int) (v16:Int):Option ((List Int×List Int)×List Str×List Int×Int×Int):=(appL 16 v12 ((lit [v13]:List Str))).bind fun l17=>some ((v11,l17,v14,v15,v16))
@[simp] theorem g18p2_eq (y0 y1)(y2:List Str)(y3 y4 y5 y6){n1:Nat}(h1:n1=y2.length):X g18_S g18p2_c [(1,(.ptr 0 0 0)),(3,(ow 1 n1)),(6,(.str y3)),(8,(.vs (rows y4))),(9,(.int .i64 y5)),(10,(.int .i64 y6))] [(.live 2 [[(.vs (rows y0)),(.vs (rows y1))]]),(ob 1 y2)]=(impl_Space_text_p2 ((y0,y1)) y2 y3 y4 y5 y6).map g18p2_F:=by
  subst h1
  simp (maxSteps:=2000000) (maxDischargeDepth:=8) -implicitDefEqProofs [g18p2_c,impl_Space_text_p2,bslV_lit (α:=Str) (zs:=[(.str [])])] <;> (try simp only [map_to_bind,some_elim,g18p2_F])
@[reducible,simp] def g18l1_F:(List Str)→Out:=(fun t=>(.ext 0,[(3,(ow 0 t.length))],[(ob 1 t)]))
def impl_Space_text_l1_b (v1:List Int×List Int) (v2:List Str) (v3:List Int) (v4:Int) (v5:Int):Option (((List Int×List Int)×List Str×List Int×Int×Int) ⊕ (List Str)):=if v5 < v4 then if 0≤v5 then (v3[(v5).toNat]?).bind fun x6=>(impl_decimal x6).bind fun r7=>if 0≤v5 then (v1.2[(v5).toNat]?).bind fun x8=>if x8=(-1) then if r7.length+(([47,42]:Str)).length≤9223372036854775807 then (impl_Space_text_p2 v1 v2 ((r7++([47,42]:Str))) v3 v4 v5).bind fun r18=>some (.inl (r18.1,r18.2.1,r18.2.2.1,r18.2.2.2.1,(IntKind.i64.wrap (r18.2.2.2.2+1)))) else none else if x8=x6 then (impl_Space_text_p2 v1 v2 r7 v3 v4 v5).bind fun r19=>some (.inl (r19.1,r19.2.1,r19.2.2.1,r19.2.2.2.1,(IntKind.i64.wrap (r19.2.2.2.2+1)))) else if 0≤v5 then (v1.2[(v5).toNat]?).bind fun x9=>(impl_decimal x9).bind fun r10=>if (([47]:Str)).length+r10.length≤9223372036854775807 then if r7.length+((([47]:Str)++r10)).length≤9223372036854775807 then (impl_Space_text_p2 v1 v2 ((r7++(([47]:Str)++r10))) v3 v4 v5).bind fun r20=>some (.inl (r20.1,r20.2.1,r20.2.2.1,r20.2.2.2.1,(IntKind.i64.wrap (r20.2.2.2.2+1)))) else none else none else none else none else none else some (.inr v2)
theorem g18l1_b_eq  (v1:List Int×List Int) (v2:List Str) (v3:List Int) (v4:Int) (v5:Int):X g18_S g18l1_cb (keepEnv [1,3,8,9,10] [(1,(.ptr 0 0 0)),(3,(ow 1 v2.length)),(8,(.vs (rows v3))),(9,(.int .i64 v4)),(10,(.int .i64 v5))]) [(.live 2 [[(.vs (rows v1.1)),(.vs (rows v1.2))]]),(ob 1 v2)]=(impl_Space_text_l1_b v1 v2 v3 v4 v5).map (Sum.elim (fun s=>(TX.nrm,[(1,(.ptr 0 0 0)),(3,(ow 1 s.2.1.length)),(8,(.vs (rows s.2.2.1))),(9,(.int .i64 s.2.2.2.1)),(10,(.int .i64 s.2.2.2.2))],[(.live 2 [[(.vs (rows s.1.1)),(.vs (rows s.1.2))]]),(ob 1 s.2.1)])) g18l1_F):=by
  simp (maxSteps:=2000000) (maxDischargeDepth:=8) -implicitDefEqProofs [g18l1_cb,impl_Space_text_l1_b,bslV_lit (α:=Str) (zs:=[(.str [])])] <;> (try simp only [map_to_bind,some_elim,g18l1_F])
def impl_Space_text_l1  (s:(List Int×List Int)×List Str×List Int×Int×Int):Option (List Str):=loopO (fun s=>impl_Space_text_l1_b  s.1 s.2.1 s.2.2.1 s.2.2.2.1 s.2.2.2.2) s
@[simp] theorem g18l1_eq (y0 y1)(y2:List Str)(y3 y4 y5){n1:Nat}(h1:n1=y2.length):X g18_S g18l1_c [(1,(.ptr 0 0 0)),(3,(ow 1 n1)),(8,(.vs (rows y3))),(9,(.int .i64 y4)),(10,(.int .i64 y5))] [(.live 2 [[(.vs (rows y0)),(.vs (rows y1))]]),(ob 1 y2)]=(impl_Space_text_l1  ((y0,y1),y2,y3,y4,y5)).map g18l1_F:=by
  subst h1
  exact loop_X _ _ _ _ (by intro r;first | (simp;done) | (rcases r with r | r <;> simp;done) | (rcases r with r | r | r <;> simp;done) | (rcases r with r | r | r | r <;> simp)) (fun s=>g18l1_b_eq   s.1 s.2.1 s.2.2.1 s.2.2.2.1 s.2.2.2.2) ((y0,y1),y2,y3,y4,y5)
@[simp] theorem g18l1_eq_1 (y0 y1 y2 y3 y4):X g18_S g18l1_c [(1,(.ptr 0 0 0)),(3,.es),(8,(.vs (rows y2))),(9,(.int .i64 y3)),(10,(.int .i64 y4))] [(.live 2 [[(.vs (rows y0)),(.vs (rows y1))]]),.dead]=(impl_Space_text_l1  ((y0,y1),([]:List Str),y2,y3,y4)).map g18l1_F :=
  g18l1_eq  y0 y1 ([]:List Str) y2 y3 y4 rfl
def impl_Space_text (a_s:List Int×List Int):Option (Str):=(impl_Space_text_l1 ((a_s,([]:List Str),a_s.1,(a_s.1.length:Int),0))).bind fun r21=>(strings_Join r21 (([44]:Str))).bind fun r22=>if (([40]:Str)).length+r22.length≤9223372036854775807 then if ((([40]:Str)++r22)).length+(([41]:Str)).length≤9223372036854775807 then some (((([40]:Str)++r22)++([41]:Str))) else none else none
@[simp] def g18_O:Str→TV×List Blk:=fun r=>((.str r),[])
def g18_E (a:(List Int×List Int)):List TV:=[(.agg [(.vs (rows a.1)),(.vs (rows a.2))])]
theorem g18_run (a_s:List Int×List Int) :callFn (X g18_S) g18_tf (g18_E a_s) []=(impl_Space_text a_s).map g18_O:=by
  rw [callFn_eq]
  simp (maxSteps:=2000000) (maxDischargeDepth:=8) -implicitDefEqProofs [g18_tf,impl_Space_text,g18_E,bslV_lit (α:=Str) (zs:=[(.str [])])] <;> (try simp only [map_to_bind,some_elim,g18_O])
def g18_r:Rule:=RlO g18_E (fun a=>impl_Space_text a) g18_O
theorem g18_ok:RuleOk Tryd.prog 48 g18_r:=ok_rlo (S:=g18_S) (tf:=g18_tf) (SysOk.on ⟨g34_ok,strings_Join_ok,trivial⟩ trivial) (trE_ok (ks:=[[1,3,8,9,10]]) Tryd.func48 (by kernel_rfl)) fun a=>g18_run a
@[simp] theorem g18_app (y0 y1):g18_r [(.agg [(.vs (rows y0)),(.vs (rows y1))])]=(impl_Space_text ((y0,y1))).map g18_O :=
  RlO_app (enc:=g18_E) (by intro a b h;simp [g18_E,Prod.ext_iff] at h ⊢;simp [h]) ((y0,y1))
/-! impl.ReadSpace -/
def g26_tf:TFn:=⟨(sq [oo 2 (.alloc [.nils,.nils]),mk 3 (kb false)] [0,2] (sq [mo 6 0,oo 7 (.build [(.str []),(.bool false)] [(0,1,(.t 6))]),bx 8 7,mo 4 8] [0,2,4] (sq [mo 9 4,oo 10 (.callM 46 0 [1] [.t 9]),oo 5 (.alloc [.nils,.nils]),⟨none,none,(.store 2 (.t 5) (.t 10))⟩] [0,2,4,5] (.seq (sq [mo 11 4,nk 12 11,fa 13 1 12,ld 14 13,mo 15 14,⟨(some 16),(some (15,false)),(.load (some 2) (.t 5))⟩,⟨(some 17),(some (15,false)),(.call 47 [.t 16])⟩,⟨(some 18),(some (15,false)),(.un .not (.t 17))⟩,pk 19 (.t 15) (kb true) (.t 18),mo 20 19,⟨(some 21),(some (20,false)),(.load (some 2) (.t 5))⟩,⟨(some 22),(some (20,false)),(.call 48 [.t 21])⟩,⟨(some 23),(some (20,false)),(.mv (.t 0))⟩,⟨(some 24),(some (20,false)),(.bin .str .neq (.t 22) (.t 23))⟩,pk 25 (.t 20) (kb true) (.t 24)] [2,5,25] (.cond (.t 25) (.seq (.ops [oo 26 (.build [.nils,.nils] []),⟨none,none,(.store 2 (.t 2) (.t 26))⟩,mk 3 (kb false)]) (.keep (kp [(2,0),(3,0)] [(0,2),(1000,1),(1001,1)] 0) .ret)) .skip)) (.trim [2,5] (.seq (.ops [ln 27 2 5,⟨none,none,(.store 2 (.t 2) (.t 27))⟩,mk 3 (kb true)]) (.keep (kp [(2,0),(3,0)] [(0,2),(3,1),(4,1)] 0) .ret))))))),[.cell 2 (some 2),.t 3]⟩
abbrev g26_S:=Sys.on [(47,g17_r),(48,g18_r)] [((46,0),(1,g9_r))]
def impl_ReadSpace (a_s:Str):Option ((List Int×List Int)×Bool):=(impl_scanner_space_od0 ((a_s,false))).bind fun r1=>if r1.1.2=true then some ((([]:List Int),([]:List Int)),false) else (impl_ValidSpace r1.2).bind fun r2=>if ¬(r2=true) then some ((([]:List Int),([]:List Int)),false) else (impl_Space_text r1.2).bind fun r3=>if ¬(r3=a_s) then some ((([]:List Int),([]:List Int)),false) else some (r1.2,true)
@[simp] def g26_O:((List Int×List Int)×Bool)→TV×List Blk:=fun r=>((.tup [(.agg [(ow 1 r.1.1.length),(ow 2 r.1.2.length)]),(.bool r.2)]),[(.live 2 [[(ow 1 r.1.1.length),(ow 2 r.1.2.length)]]),(ob 1 r.1.1),(ob 1 r.1.2)])
def g26_E (a:Str):List TV:=[(.str a)]
theorem g26_run (a_s:Str) :callFn (X g26_S) g26_tf (g26_E a_s) []=(impl_ReadSpace a_s).map g26_O:=by
  rw [callFn_eq]
  simp (maxSteps:=2000000) (maxDischargeDepth:=8) -implicitDefEqProofs [g26_tf,impl_ReadSpace,g26_E] <;> (try simp only [map_to_bind,some_elim,g26_O])
def g26_r:Rule:=RlO g26_E (fun a=>impl_ReadSpace a) g26_O
theorem g26_ok:RuleOk Tryd.prog 14 g26_r:=ok_rlo (S:=g26_S) (tf:=g26_tf) (SysOk.on ⟨g17_ok,g18_ok,trivial⟩ ⟨g9_ok,trivial⟩) (trE_ok (ks:=[]) Tryd.func14 (by kernel_rfl)) fun a=>g26_run a
@[simp] theorem g26_app (y0):g26_r [(.str y0)]=(impl_ReadSpace y0).map g26_O :=
  RlO_app (enc:=g26_E) (by intro a b h;simp [g26_E,Prod.ext_iff] at h ⊢;simp [h]) y0
/-! laws.eqInt64S -/
def g30l1_cb:TC:=(.seq (sq [mo 11 5,mo 12 0,le 13 12,bn 14 .lss (.t 11) (.t 13)] [0,1,5,14] (.cond (.t 14) .skip (.keep (kp [] [] 0) (.exit 0)))) (.trim [0,1,5] (.seq (.block 1 (.seq (.draw [([],mo 17 0),([],mo 18 5),([0,1],ia 19 1 17 18),([0,1,2],ld 20 19),([],mo 21 1),([],mo 22 5),([4,5],ia 23 1 21 22),([4,5,6],ld 24 23)] [bn 25 .neq (.t 20) (.t 24)]) (.trim [0,1,5,25] (.cond (.t 25) (.seq (.ops [mk 4 (kb false)]) (.keep (kp [(4,0)] [] 0) .ret)) .skip)))) (.trim [0,1,5] (.after (.ops [mo 15 5,bn 16 .add (.t 15) (ki 1),mo 5 16]) (kp [(0,0),(1,0),(5,0)] [] 0))))))
def g30l1_c:TC:=.loop [0,1,5] g30l1_cb
def g30_tf:TFn:=⟨(sq [mk 4 (kb false)] [0,1] (.seq (sq [mo 6 0,le 7 6,mo 8 1,le 9 8,bn 10 .neq (.t 7) (.t 9)] [0,1,10] (.cond (.t 10) (.seq (.ops [mk 4 (kb false)]) (.keep (kp [(4,0)] [] 0) .ret)) .skip)) (.trim [0,1] (.seq (sq [mk 5 (ki 0)] [0,1,5] (.block 0 (.keep (kp [(0,0),(1,0),(5,0)] [] 0) g30l1_c))) (.trim [] (.seq (.ops [mk 4 (kb true)]) (.keep (kp [(4,0)] [] 0) .ret))))))),[.t 4]⟩
abbrev g30_S:=Sys.on [] []
@[reducible,simp] def g30l1_F:((Unit) ⊕ (Bool))→Out:=(Sum.elim (fun t=>(.ext 0,[],[])) (fun t=>(.ret,[(4,(.bool t))],[])))
def laws_eqInt64S_l1_b (v1:List Int) (v2:List Int) (v3:Int):Option ((Int) ⊕ ((Unit) ⊕ (Bool))):=if v3 < (v1.length:Int) then if 0≤v3 then (v1[(v3).toNat]?).bind fun x4=>if 0≤v3 then (v2[(v3).toNat]?).bind fun x5=>if ¬(x4=x5) then some (.inr (.inr false)) else some (.inl ((IntKind.i64.wrap (v3+1)))) else none else none else some (.inr (.inl ()))
theorem g30l1_b_eq  (v1:List Int) (v2:List Int) (v3:Int):X g30_S g30l1_cb (keepEnv [0,1,5] [(0,(.vs (rows v1))),(1,(.vs (rows v2))),(5,(.int .i64 v3))]) []=(laws_eqInt64S_l1_b v1 v2 v3).map (Sum.elim (fun s=>(TX.nrm,[(0,(.vs (rows v1))),(1,(.vs (rows v2))),(5,(.int .i64 s))],[])) g30l1_F):=by
  simp (maxSteps:=2000000) (maxDischargeDepth:=8) -implicitDefEqProofs [g30l1_cb,laws_eqInt64S_l1_b] <;> (try simp only [map_to_bind,some_elim,g30l1_F])
def laws_eqInt64S_l1 (v1:List Int) (v2:List Int) (s:Int):Option ((Unit) ⊕ (Bool)):=loopO (fun s=>laws_eqInt64S_l1_b v1 v2 s) s
@[simp] theorem g30l1_eq (y0 y1 y2):X g30_S g30l1_c [(0,(.vs (rows y0))),(1,(.vs (rows y1))),(5,(.int .i64 y2))] []=(laws_eqInt64S_l1 y0 y1 y2).map g30l1_F:=by
  exact loop_X _ _ _ _ (by intro r;first | (simp;done) | (rcases r with r | r <;> simp;done) | (rcases r with r | r | r <;> simp;done) | (rcases r with r | r | r | r <;> simp)) (fun s=>g30l1_b_eq  y0 y1 s) y2
def laws_eqInt64S (a_a:List Int) (a_b:List Int):Option (Bool):=if ¬((a_a.length:Int)=(a_b.length:Int)) then some false else (laws_eqInt64S_l1 a_a a_b 0).bind fun r6=>Sum.elim (fun u7=>some true) (fun u8=>some u8) r6
@[simp] def g30_O:Bool→TV×List Blk:=fun r=>((.bool r),[])
def g30_E (a:List Int×List Int):List TV:=[(.vs (rows a.1)),(.vs (rows a.2))]
theorem g30_run (a_a:List Int) (a_b:List Int) :callFn (X g30_S) g30_tf (g30_E (a_a,a_b)) []=(laws_eqInt64S a_a a_b).map g30_O:=by
  rw [callFn_eq]
  simp (maxSteps:=2000000) (maxDischargeDepth:=8) -implicitDefEqProofs [g30_tf,laws_eqInt64S,g30_E] <;> (try simp only [map_to_bind,some_elim,g30_O])
def g30_r:Rule:=RlO g30_E (fun a=>laws_eqInt64S a.1 a.2) g30_O
theorem g30_ok:RuleOk Tryd.prog 41 g30_r:=ok_rlo (S:=g30_S) (tf:=g30_tf) (SysOk.on trivial trivial) (trE_ok (ks:=[[0,1,5],[8]]) Tryd.func41 (by kernel_rfl)) fun a=>g30_run a.1 a.2
@[simp] theorem g30_app (y0 y1):g30_r [(.vs (rows y0)),(.vs (rows y1))]=(laws_eqInt64S y0 y1).map g30_O :=
  RlO_app (enc:=g30_E) (by intro a b h;simp [g30_E,Prod.ext_iff] at h ⊢;simp [h]) (y0,y1)
/-! laws.eqSpace -/
def g36_tf:TFn:=⟨(sq [bx 2 0,bx 3 1,mk 4 (kb false)] [2,3] (.seq (sq [fa 5 0 2,ld 6 5,fa 7 0 3,ld 8 7,ca 9 41 [.t 6,.t 8],nt 10 9] [2,3,10] (.cond (.t 10) (.seq (.ops [mk 4 (kb false)]) (.keep (kp [(4,0)] [] 0) .ret)) .skip)) (.trim [2,3] (.seq (sq [fa 11 1 2,ld 12 11,fa 13 1 3,ld 14 13,ca 15 41 [.t 12,.t 14],nt 16 15] [16] (.cond (.t 16) (.seq (.ops [mk 4 (kb false)]) (.keep (kp [(4,0)] [] 0) .ret)) .skip)) (.trim [] (.seq (.ops [mk 4 (kb true)]) (.keep (kp [(4,0)] [] 0) .ret))))))),[.t 4]⟩
abbrev g36_S:=Sys.on [(41,g30_r)] []
def laws_eqSpace (a_a:List Int×List Int) (a_b:List Int×List Int):Option (Bool):=(laws_eqInt64S a_a.1 a_b.1).bind fun r1=>if ¬(r1=true) then some false else (laws_eqInt64S a_a.2 a_b.2).bind fun r2=>if ¬(r2=true) then some false else some true
@[simp] def g36_O:Bool→TV×List Blk:=fun r=>((.bool r),[])
def g36_E (a:(List Int×List Int)×(List Int×List Int)):List TV:=[(.agg [(.vs (rows a.1.1)),(.vs (rows a.1.2))]),(.agg [(.vs (rows a.2.1)),(.vs (rows a.2.2))])]
theorem g36_run (a_a:List Int×List Int) (a_b:List Int×List Int) :callFn (X g36_S) g36_tf (g36_E (a_a,a_b)) []=(laws_eqSpace a_a a_b).map g36_O:=by
  rw [callFn_eq]
  simp (maxSteps:=2000000) (maxDischargeDepth:=8) -implicitDefEqProofs [g36_tf,laws_eqSpace,g36_E] <;> (try simp only [map_to_bind,some_elim,g36_O])
def g36_r:Rule:=RlO g36_E (fun a=>laws_eqSpace a.1 a.2) g36_O
theorem g36_ok:RuleOk Tryd.prog 15 g36_r:=ok_rlo (S:=g36_S) (tf:=g36_tf) (SysOk.on ⟨g30_ok,trivial⟩ trivial) (trE_ok (ks:=[]) Tryd.func15 (by kernel_rfl)) fun a=>g36_run a.1 a.2
@[simp] theorem g36_app (y0 y1 y2 y3):g36_r [(.agg [(.vs (rows y0)),(.vs (rows y1))]),(.agg [(.vs (rows y2)),(.vs (rows y3))])]=(laws_eqSpace ((y0,y1)) ((y2,y3))).map g36_O :=
  RlO_app (enc:=g36_E) (by intro a b h;simp [g36_E,Prod.ext_iff] at h ⊢;simp [h]) ((y0,y1),(y2,y3))
/-! laws.markInt64S -/
def g11l1_cb:TC:=(.seq (sq [mo 6 5,mo 7 0,le 8 7,bn 9 .lss (.t 6) (.t 8)] [0,1,5,9] (.cond (.t 9) .skip (.keep (kp [(1,0)] [(0,1)] 1) (.exit 0)))) (.trim [0,1,5] (.seq (.block 1 (sq [mo 12 0,mo 13 5,mo 14 1,ia 15 1 12 13,⟨none,none,(.store 1 (.t 15) (.t 14))⟩] [0,1,5] (.ops [mo 16 1,bn 17 .add (.t 16) (ki 1),mo 1 17]))) (.trim [0,1,5] (.after (.ops [mo 10 5,bn 11 .add (.t 10) (ki 1),mo 5 11]) (kp [(0,0),(1,0),(5,0)] [(0,1)] 1))))))
def g11l1_c:TC:=.loop [0,1,5] g11l1_cb
def g11_tf:TFn:=⟨(sq [mk 4 (ki 0)] [0,1] (.seq (sq [mk 5 (ki 0)] [0,1,5] (.block 0 (.keep (kp [(0,0),(1,0),(5,0)] [(0,1)] 1) g11l1_c))) (.trim [1] (.seq (.ops [mo 18 1,mo 4 18]) (.keep (kp [(4,0)] [(0,1)] 1) .ret))))),[.t 4]⟩
abbrev g11_S:=Sys.on [] []
@[reducible,simp] def g11l1_F:(List Int×Int)→Out:=(fun t=>(.ext 0,[(1,(.int .i64 t.2))],[(ob 1 t.1)]))
def laws_markInt64S_o5f_l1_b (v1:List Int) (v2:Int) (v3:Int):Option ((List Int×Int×Int) ⊕ (List Int×Int)):=if v3 < ((v1.length:Nat):Int) then if 0≤v3∧v3 < ((v1.length:Nat):Int) then (v1[(v3).toNat]?).bind fun x4=>some (.inl ((v1.set (v3).toNat v2),(IntKind.i64.wrap (v2+1)),(IntKind.i64.wrap (v3+1)))) else none else some (.inr (v1,v2))
theorem g11l1_b_eq  (v1:List Int) (v2:Int) (v3:Int):X g11_S g11l1_cb (keepEnv [0,1,5] [(0,(ow 0 v1.length)),(1,(.int .i64 v2)),(5,(.int .i64 v3))]) [(ob 1 v1)]=(laws_markInt64S_o5f_l1_b v1 v2 v3).map (Sum.elim (fun s=>(TX.nrm,[(0,(ow 0 s.1.length)),(1,(.int .i64 s.2.1)),(5,(.int .i64 s.2.2))],[(ob 1 s.1)])) g11l1_F):=by
  simp (maxSteps:=2000000) (maxDischargeDepth:=8) -implicitDefEqProofs [g11l1_cb,laws_markInt64S_o5f_l1_b] <;> (try simp only [map_to_bind,some_elim,g11l1_F])
def laws_markInt64S_o5f_l1  (s:List Int×Int×Int):Option (List Int×Int):=loopO (fun s=>laws_markInt64S_o5f_l1_b  s.1 s.2.1 s.2.2) s
@[simp] theorem g11l1_eq (y0:List Int)(y1 y2){n1:Nat}(h1:n1=y0.length):X g11_S g11l1_c [(0,(ow 0 n1)),(1,(.int .i64 y1)),(5,(.int .i64 y2))] [(ob 1 y0)]=(laws_markInt64S_o5f_l1  (y0,y1,y2)).map g11l1_F:=by
  subst h1
  exact loop_X _ _ _ _ (by intro r;first | (simp;done) | (rcases r with r | r <;> simp;done) | (rcases r with r | r | r <;> simp;done) | (rcases r with r | r | r | r <;> simp)) (fun s=>g11l1_b_eq   s.1 s.2.1 s.2.2) (y0,y1,y2)
def laws_markInt64S_o5f (a1:List Int) (a2:Int):Option (List Int×Int):=(laws_markInt64S_o5f_l1 ((a1,a2,0))).bind fun r5=>some (r5.1,r5.2)
@[simp] def g11_O:(List Int×Int)→TV×List Blk:=fun r=>((.int .i64 r.2),[(ob 1 r.1)])
abbrev g11_T:=List Int×Int
def g11_E (a:g11_T):List TV:=[(ow 0 a.1.length),(.int .i64 a.2)]
def g11_B (a:g11_T):List Blk:=[(ob 1 a.1)]
theorem g11_run (a1:List Int) (a2:Int) :callFn (X g11_S) g11_tf (g11_E (a1,a2)) (g11_B (a1,a2))=(laws_markInt64S_o5f a1 a2).map g11_O:=by
  rw [callFn_eq]
  simp (maxSteps:=2000000) (maxDischargeDepth:=8) -implicitDefEqProofs [g11_tf,laws_markInt64S_o5f,g11_E,g11_B] <;> (try simp only [map_to_bind,some_elim,g11_O])
def g11_r:MRule:=RmO g11_E g11_B (fun a=>(laws_markInt64S_o5f a.1 a.2).bind fun r=>if r.1.length=a.1.length then some ((fixLen a.1 r.1),r.2) else none) g11_O
theorem g11_ok0:MRuleOk Tryd.prog 49 1 (RmO g11_E g11_B (fun a=>laws_markInt64S_o5f a.1 a.2) g11_O):=ok_rmo (S:=g11_S) (tf:=g11_tf) (SysOk.on trivial trivial) (trE_ok (ks:=[[0,1,5]]) Tryd.func49 (by kernel_rfl)) (by rfl) (fun _=>by simp [g11_B]) (fun _=>by simp) fun a=>g11_run a.1 a.2
theorem g11_ok:MRuleOk Tryd.prog 49 1 g11_r:=g11_ok0.weak fun a r hr=>by
  simp only [Option.bind_eq_some_iff] at hr
  obtain ⟨x,h1,h2⟩:=hr
  split at h2
  · rename_i hc
    simp only [Option.some.injEq] at h2
    rw [h1,← h2]
    simp [fixLen,hc]
  · cases h2
@[simp] theorem g11_app (y0:List Int)(y1){n1:Nat}(h1:n1=y0.length):g11_r [(ow 0 n1),(.int .i64 y1)] [(ob 1 y0)]=((laws_markInt64S_o5f y0 y1).bind fun r=>if r.1.length=y0.length then some ((fixLen y0 r.1),r.2) else none).map g11_O:=by
  subst h1
  exact RmO_app (enc:=g11_E) (encB:=g11_B) (by intro a b h h2;simp [g11_E,g11_B,Prod.ext_iff] at h h2 ⊢;simp [h,h2]) (y0,y1)
/-! laws.markSpace -/
def g12_tf:TFn:=⟨(sq [bx 2 0,mk 4 (ki 0)] [1,2] (sq [fa 5 0 2,ld 6 5,mo 7 1,oo 8 (.callM 49 0 [0] [.t 6,.t 7]),mo 1 8] [1,2] (sq [fa 9 1 2,ld 10 9,mo 11 1,oo 12 (.callM 49 0 [1] [.t 10,.t 11]),mo 1 12] [1] (.seq (.ops [mo 13 1,mo 4 13]) (.keep (kp [(4,0)] [(0,1),(1,1)] 2) .ret))))),[.t 4]⟩
abbrev g12_S:=Sys.on [] [((49,0),(1,g11_r))]
def laws_markSpace_o0c (a1:List Int) (a2:List Int) (a3:Int):Option (List Int×List Int×Int):=(laws_markInt64S_o5f a1 a3).bind fun r1=>if r1.1.length=a1.length then (laws_markInt64S_o5f a2 r1.2).bind fun r2=>if r2.1.length=a2.length then some ((fixLen a1 r1.1),(fixLen a2 r2.1),r2.2) else none else none
@[simp] def g12_O:(List Int×List Int×Int)→TV×List Blk:=fun r=>((.int .i64 r.2.2),[(ob 1 r.1),(ob 1 r.2.1)])
abbrev g12_T:=List Int×List Int×Int
def g12_E (a:g12_T):List TV:=[(.agg [(ow 0 a.1.length),(ow 1 a.2.1.length)]),(.int .i64 a.2.2)]
def g12_B (a:g12_T):List Blk:=[(ob 1 a.1),(ob 1 a.2.1)]
theorem g12_run (a1:List Int) (a2:List Int) (a3:Int) :callFn (X g12_S) g12_tf (g12_E (a1,a2,a3)) (g12_B (a1,a2,a3))=(laws_markSpace_o0c a1 a2 a3).map g12_O:=by
  rw [callFn_eq]
  simp (maxSteps:=2000000) (maxDischargeDepth:=8) -implicitDefEqProofs [g12_tf,laws_markSpace_o0c,g12_E,g12_B] <;> (try simp only [map_to_bind,some_elim,g12_O])
def g12_r:MRule:=RmO g12_E g12_B (fun a=>(laws_markSpace_o0c a.1 a.2.1 a.2.2).bind fun r=>if r.1.length=a.1.length∧r.2.1.length=a.2.1.length then some ((fixLen a.1 r.1),(fixLen a.2.1 r.2.1),r.2.2) else none) g12_O
theorem g12_ok0:MRuleOk Tryd.prog 16 2 (RmO g12_E g12_B (fun a=>laws_markSpace_o0c a.1 a.2.1 a.2.2) g12_O):=ok_rmo (S:=g12_S) (tf:=g12_tf) (SysOk.on trivial ⟨g11_ok,trivial⟩) (trE_ok (ks:=[]) Tryd.func16 (by kernel_rfl)) (by rfl) (fun _=>by simp [g12_B]) (fun _=>by simp) fun a=>g12_run a.1 a.2.1 a.2.2
theorem g12_ok:MRuleOk Tryd.prog 16 2 g12_r:=g12_ok0.weak fun a r hr=>by
  simp only [Option.bind_eq_some_iff] at hr
  obtain ⟨x,h1,h2⟩:=hr
  split at h2
  · rename_i hc
    simp only [Option.some.injEq] at h2
    rw [h1,← h2]
    simp [fixLen,hc]
  · cases h2
@[simp] theorem g12_app (y0:List Int)(y1:List Int)(y2){n1:Nat}(h1:n1=y0.length){n2:Nat}(h2:n2=y1.length):g12_r [(.agg [(ow 0 n1),(ow 1 n2)]),(.int .i64 y2)] [(ob 1 y0),(ob 1 y1)]=((laws_markSpace_o0c y0 y1 y2).bind fun r=>if r.1.length=y0.length∧r.2.1.length=y1.length then some ((fixLen y0 r.1),(fixLen y1 r.2.1),r.2.2) else none).map g12_O:=by
  subst h1 h2
  exact RmO_app (enc:=g12_E) (encB:=g12_B) (by intro a b h h2;simp [g12_E,g12_B,Prod.ext_iff] at h h2 ⊢;simp [h,h2]) (y0,y1,y2)
/-! laws.heldInt64S -/
def g19l1_cb:TC:=(.seq (sq [mo 6 5,mo 7 0,le 8 7,bn 9 .lss (.t 6) (.t 8)] [0,1,5,9] (.cond (.t 9) .skip (.keep (kp [(1,0)] [] 0) (.exit 0)))) (.trim [0,1,5] (.seq (.block 1 (.seq (sq [mo 12 0,mo 13 5,ia 14 1 12 13,ld 15 14,mo 16 1,bn 17 .neq (.t 15) (.t 16)] [0,1,5,17] (.cond (.t 17) (.seq (.ops [mk 4 (ki (-1))]) (.keep (kp [(4,0)] [] 0) .ret)) .skip)) (.trim [0,1,5] (.ops [mo 18 1,bn 19 .add (.t 18) (ki 1),mo 1 19])))) (.trim [0,1,5] (.after (.ops [mo 10 5,bn 11 .add (.t 10) (ki 1),mo 5 11]) (kp [(0,0),(1,0),(5,0)] [] 0))))))
def g19l1_c:TC:=.loop [0,1,5] g19l1_cb
def g19_tf:TFn:=⟨(sq [mk 4 (ki 0)] [0,1] (.seq (sq [mk 5 (ki 0)] [0,1,5] (.block 0 (.keep (kp [(0,0),(1,0),(5,0)] [] 0) g19l1_c))) (.trim [1] (.seq (.ops [mo 20 1,mo 4 20]) (.keep (kp [(4,0)] [] 0) .ret))))),[.t 4]⟩
abbrev g19_S:=Sys.on [] []
@[reducible,simp] def g19l1_F:((Int) ⊕ (Int))→Out:=(Sum.elim (fun t=>(.ext 0,[(1,(.int .i64 t))],[])) (fun t=>(.ret,[(4,(.int .i64 t))],[])))
def laws_heldInt64S_l1_b (v1:List Int) (v2:Int) (v3:Int):Option ((Int×Int) ⊕ ((Int) ⊕ (Int))):=if v3 < (v1.length:Int) then if 0≤v3 then (v1[(v3).toNat]?).bind fun x4=>if ¬(x4=v2) then some (.inr (.inr ((-1)))) else some (.inl ((IntKind.i64.wrap (v2+1)),(IntKind.i64.wrap (v3+1)))) else none else some (.inr (.inl v2))
theorem g19l1_b_eq  (v1:List Int) (v2:Int) (v3:Int):X g19_S g19l1_cb (keepEnv [0,1,5] [(0,(.vs (rows v1))),(1,(.int .i64 v2)),(5,(.int .i64 v3))]) []=(laws_heldInt64S_l1_b v1 v2 v3).map (Sum.elim (fun s=>(TX.nrm,[(0,(.vs (rows v1))),(1,(.int .i64 s.1)),(5,(.int .i64 s.2))],[])) g19l1_F):=by
  simp (maxSteps:=2000000) (maxDischargeDepth:=8) -implicitDefEqProofs [g19l1_cb,laws_heldInt64S_l1_b] <;> (try simp only [map_to_bind,some_elim,g19l1_F])
def laws_heldInt64S_l1 (v1:List Int) (s:Int×Int):Option ((Int) ⊕ (Int)):=loopO (fun s=>laws_heldInt64S_l1_b v1 s.1 s.2) s
@[simp] theorem g19l1_eq (y0 y1 y2):X g19_S g19l1_c [(0,(.vs (rows y0))),(1,(.int .i64 y1)),(5,(.int .i64 y2))] []=(laws_heldInt64S_l1 y0 (y1,y2)).map g19l1_F:=by
  exact loop_X _ _ _ _ (by intro r;first | (simp;done) | (rcases r with r | r <;> simp;done) | (rcases r with r | r | r <;> simp;done) | (rcases r with r | r | r | r <;> simp)) (fun s=>g19l1_b_eq  y0 s.1 s.2) (y1,y2)
def laws_heldInt64S (a_a:List Int) (a_k:Int):Option (Int):=(laws_heldInt64S_l1 a_a ((a_k,0))).bind fun r5=>Sum.elim (fun u6=>some u6) (fun u7=>some u7) r5
@[simp] def g19_O:Int→TV×List Blk:=fun r=>((.int .i64 r),[])
def g19_E (a:List Int×Int):List TV:=[(.vs (rows a.1)),(.int .i64 a.2)]
theorem g19_run (a_a:List Int) (a_k:Int) :callFn (X g19_S) g19_tf (g19_E (a_a,a_k)) []=(laws_heldInt64S a_a a_k).map g19_O:=by
  rw [callFn_eq]
  simp (maxSteps:=2000000) (maxDischargeDepth:=8) -implicitDefEqProofs [g19_tf,laws_heldInt64S,g19_E] <;> (try simp only [map_to_bind,some_elim,g19_O])
def g19_r:Rule:=RlO g19_E (fun a=>laws_heldInt64S a.1 a.2) g19_O
theorem g19_ok:RuleOk Tryd.prog 50 g19_r:=ok_rlo (S:=g19_S) (tf:=g19_tf) (SysOk.on trivial trivial) (trE_ok (ks:=[[0,1,5]]) Tryd.func50 (by kernel_rfl)) fun a=>g19_run a.1 a.2
@[simp] theorem g19_app (y0 y1):g19_r [(.vs (rows y0)),(.int .i64 y1)]=(laws_heldInt64S y0 y1).map g19_O :=
  RlO_app (enc:=g19_E) (by intro a b h;simp [g19_E,Prod.ext_iff] at h ⊢;simp [h]) (y0,y1)
/-! laws.heldSpace -/
def g27_tf:TFn:=⟨(sq [bx 2 0,mk 4 (ki 0)] [1,2] (sq [fa 5 0 2,ld 6 5,mo 7 1,ca 8 50 [.t 6,.t 7],mo 1 8] [1,2] (.seq (sq [mo 9 1,bn 10 .lss (.t 9) (ki 0)] [1,2,10] (.cond (.t 10) (.seq (.ops [mk 4 (ki (-1))]) (.keep (kp [(4,0)] [] 0) .ret)) .skip)) (.trim [1,2] (sq [fa 11 1 2,ld 12 11,mo 13 1,ca 14 50 [.t 12,.t 13],mo 1 14] [1] (.seq (sq [mo 15 1,bn 16 .lss (.t 15) (ki 0)] [1,16] (.cond (.t 16) (.seq (.ops [mk 4 (ki (-1))]) (.keep (kp [(4,0)] [] 0) .ret)) .skip)) (.trim [1] (.seq (.ops [mo 17 1,mo 4 17]) (.keep (kp [(4,0)] [] 0) .ret))))))))),[.t 4]⟩
abbrev g27_S:=Sys.on [(50,g19_r)] []
def laws_heldSpace (a_a:List Int×List Int) (a_k:Int):Option (Int):=(laws_heldInt64S a_a.1 a_k).bind fun r1=>if r1 < 0 then some ((-1)) else (laws_heldInt64S a_a.2 r1).bind fun r2=>if r2 < 0 then some ((-1)) else some r2
@[simp] def g27_O:Int→TV×List Blk:=fun r=>((.int .i64 r),[])
def g27_E (a:(List Int×List Int)×Int):List TV:=[(.agg [(.vs (rows a.1.1)),(.vs (rows a.1.2))]),(.int .i64 a.2)]
theorem g27_run (a_a:List Int×List Int) (a_k:Int) :callFn (X g27_S) g27_tf (g27_E (a_a,a_k)) []=(laws_heldSpace a_a a_k).map g27_O:=by
  rw [callFn_eq]
  simp (maxSteps:=2000000) (maxDischargeDepth:=8) -implicitDefEqProofs [g27_tf,laws_heldSpace,g27_E] <;> (try simp only [map_to_bind,some_elim,g27_O])
def g27_r:Rule:=RlO g27_E (fun a=>laws_heldSpace a.1 a.2) g27_O
theorem g27_ok:RuleOk Tryd.prog 17 g27_r:=ok_rlo (S:=g27_S) (tf:=g27_tf) (SysOk.on ⟨g19_ok,trivial⟩ trivial) (trE_ok (ks:=[]) Tryd.func17 (by kernel_rfl)) fun a=>g27_run a.1 a.2
@[simp] theorem g27_app (y0 y1 y2):g27_r [(.agg [(.vs (rows y0)),(.vs (rows y1))]),(.int .i64 y2)]=(laws_heldSpace ((y0,y1)) y2).map g27_O :=
  RlO_app (enc:=g27_E) (by intro a b h;simp [g27_E,Prod.ext_iff] at h ⊢;simp [h]) ((y0,y1),y2)
/-! laws.FnExactReadSpace -/
def g10_tf:TFn:=⟨(sq [mk 2 (kb false)] [0] (.seq (sq [mo 11 0,oo 12 (.len true (.t 11)),bn 13 .gtr (.t 12) (ki 1048576)] [0,13] (.cond (.t 13) (.seq (.ops [mk 2 (kb true)]) (.keep (kp [(2,0)] [] 0) .ret)) .skip)) (.trim [0] (sq [mo 15 0,ca 16 13 [.t 15],mo 14 16,oo 17 (.ext (.t 14) 0),oo 18 (.ext (.t 14) 1),oo 3 (.alloc [.nils,.nils]),⟨none,none,(.store 2 (.t 3) (.t 17))⟩,mo 4 18] [0,3,4] (sq [mo 20 0,ca 21 14 [.t 20],mo 19 21,oo 22 (.ext (.t 19) 0),oo 23 (.ext (.t 19) 1),oo 5 (.alloc [.nils,.nils]),⟨none,none,(.store 2 (.t 5) (.t 22))⟩,mo 6 23] [0,3,4,5,6] (.seq (sq [ln 24 2 5,ln 25 2 3,ca 26 15 [.t 24,.t 25],nt 27 26,mo 28 27,⟨(some 29),(some (28,false)),(.mv (.t 6))⟩,⟨(some 30),(some (28,false)),(.mv (.t 4))⟩,⟨(some 31),(some (28,false)),(.bin .bool .neq (.t 29) (.t 30))⟩,pk 32 (.t 28) (kb true) (.t 31)] [0,3,4,5,32] (.cond (.t 32) (.seq (.ops [mk 2 (kb false)]) (.keep (kp [(2,0)] [] 0) .ret)) .skip)) (.trim [0,3,4,5] (sq [mk 7 (ki 1)] [0,3,4,5,7] (sq [ln 33 2 5,mo 34 7,oo 35 (.callM 16 0 [5,6] [.t 33,.t 34]),mo 7 35] [0,3,4,5,7] (sq [mk 8 (ki 1)] [0,3,4,5,7,8] (sq [ln 36 2 5,mo 37 8,ca 38 17 [.t 36,.t 37],mo 8 38] [0,3,4,5,7,8] (.seq (sq [mo 39 8,bn 40 .lss (.t 39) (ki 0)] [0,3,4,5,7,8,40] (.cond (.t 40) (.seq (.ops [mk 2 (kb false)]) (.keep (kp [(2,0)] [] 0) .ret)) .skip)) (.trim [0,3,4,5,7,8] (.seq (sq [mo 41 8,mo 42 7,bn 43 .neq (.t 41) (.t 42)] [0,3,4,5,7,43] (.cond (.t 43) (.seq (.ops [mk 2 (kb false)]) (.keep (kp [(2,0)] [] 0) .ret)) .skip)) (.trim [0,3,4,5,7] (sq [mo 45 0,ca 46 14 [.t 45],mo 44 46,oo 47 (.ext (.t 44) 0),oo 48 (.ext (.t 44) 1),oo 9 (.alloc [.nils,.nils]),⟨none,none,(.store 2 (.t 9) (.t 47))⟩,mo 10 48] [3,4,5,7,9,10] (.seq (sq [ln 49 2 9,ln 50 2 3,ca 51 15 [.t 49,.t 50],nt 52 51,mo 53 52,⟨(some 54),(some (53,false)),(.mv (.t 10))⟩,⟨(some 55),(some (53,false)),(.mv (.t 4))⟩,⟨(some 56),(some (53,false)),(.bin .bool .neq (.t 54) (.t 55))⟩,pk 57 (.t 53) (kb true) (.t 56)] [5,7,57] (.cond (.t 57) (.seq (.ops [mk 2 (kb false)]) (.keep (kp [(2,0)] [] 0) .ret)) .skip)) (.trim [5,7] (sq [mk 8 (ki 1)] [5,7,8] (sq [ln 58 2 5,mo 59 8,ca 60 17 [.t 58,.t 59],mo 8 60] [7,8] (.seq (sq [mo 61 8,bn 62 .lss (.t 61) (ki 0)] [7,8,62] (.cond (.t 62) (.seq (.ops [mk 2 (kb false)]) (.keep (kp [(2,0)] [] 0) .ret)) .skip)) (.trim [7,8] (.seq (sq [mo 63 8,mo 64 7,bn 65 .neq (.t 63) (.t 64)] [65] (.cond (.t 65) (.seq (.ops [mk 2 (kb false)]) (.keep (kp [(2,0)] [] 0) .ret)) .skip)) (.trim [] (.seq (.ops [mk 2 (kb true)]) (.keep (kp [(2,0)] [] 0) .ret)))))))))))))))))))))))))),[.t 2]⟩
abbrev g10_S:=Sys.on [(13,g23_r),(14,g26_r),(15,g36_r),(17,g27_r)] [((16,0),(2,g12_r))]
def laws_FnExactReadSpace (a_aS:Str):Option (Bool):=if (a_aS.length:Int) > 1048576 then some true else (spec_ReadSpace a_aS).bind fun r1=>(impl_ReadSpace a_aS).bind fun r2=>(laws_eqSpace r2.1 r1.1).bind fun r3=>if ¬(r3=true) then some false else if ((!(r2.2 == r1.2)))=true then some false else (laws_markSpace_o0c r2.1.1 r2.1.2 1).bind fun r4=>if r4.1.length=r2.1.1.length∧r4.2.1.length=r2.1.2.length then (laws_heldSpace (((fixLen r2.1.1 r4.1),(fixLen r2.1.2 r4.2.1))) 1).bind fun r5=>if r5 < 0 then some false else if ¬(r5=r4.2.2) then some false else (impl_ReadSpace a_aS).bind fun r6=>(laws_eqSpace r6.1 r1.1).bind fun r7=>if ¬(r7=true) then some false else if ((!(r6.2 == r1.2)))=true then some false else (laws_heldSpace (((fixLen r2.1.1 r4.1),(fixLen r2.1.2 r4.2.1))) 1).bind fun r8=>if r8 < 0 then some false else if ¬(r8=r4.2.2) then some false else some true else none
@[simp] def g10_O:Bool→TV×List Blk:=fun r=>((.bool r),[])
def g10_E (a:Str):List TV:=[(.str a)]
theorem g10_run (a_aS:Str) :callFn (X g10_S) g10_tf (g10_E a_aS) []=(laws_FnExactReadSpace a_aS).map g10_O:=by
  rw [callFn_eq]
  simp (maxSteps:=2000000) (maxDischargeDepth:=8) -implicitDefEqProofs [g10_tf,laws_FnExactReadSpace,g10_E] <;> (try simp only [map_to_bind,some_elim,g10_O])
def laws_FnExactReadSpace_r:Rule:=RlO g10_E (fun a=>laws_FnExactReadSpace a) g10_O
theorem laws_FnExactReadSpace_ok:RuleOk Tryd.prog 4 laws_FnExactReadSpace_r:=ok_rlo (S:=g10_S) (tf:=g10_tf) (SysOk.on ⟨g23_ok,g26_ok,g36_ok,g27_ok,trivial⟩ ⟨g12_ok,trivial⟩) (trE_ok (ks:=[]) Tryd.func4 (by kernel_rfl)) fun a=>g10_run a
@[simp] theorem laws_FnExactReadSpace_app (y0):laws_FnExactReadSpace_r [(.str y0)]=(laws_FnExactReadSpace y0).map g10_O :=
  RlO_app (enc:=g10_E) (by intro a b h;simp [g10_E,Prod.ext_iff] at h ⊢;simp [h]) y0
end
end Go.Proofs.TM
