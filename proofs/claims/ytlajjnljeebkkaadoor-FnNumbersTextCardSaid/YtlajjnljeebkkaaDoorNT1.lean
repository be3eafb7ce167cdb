/- Functions of the program, as functions of their data: written by program. -/
import Derived.Test.YtlajjnljeebkkaaDoorNT0
namespace Go.Proofs.TM
open Go Go.Proofs
set_option linter.unusedVariables false
set_option linter.unusedSimpArgs false
set_option maxHeartbeats 1000000
attribute [-simp] Option.map_bind strV_some
attribute [simp] guardOn_bool sA_bslice Function.comp_def
noncomputable section
/-! impl.ValidNumbers -/
def g17_tf:TFn:=⟨(sq [bx 1 0,mk 2 (kb false)] [1] (.seq (.after (.draw [([],fa 3 0 1),([0],ld 4 3),([0,1],ca 5 90 [.t 4]),([0,1,2],mo 6 5),([0,1,2,3],⟨(some 7),(some (6,true)),(.faddr 1 (.t 1))⟩),([0,1,2,3,4],⟨(some 8),(some (6,true)),(.load none (.t 7))⟩),([0,1,2,3,4,5],⟨(some 9),(some (6,true)),(.len false (.t 8))⟩),([0,1,2,3],⟨(some 10),(some (6,true)),(.faddr 0 (.t 1))⟩),([0,1,2,3,7],⟨(some 11),(some (6,true)),(.load none (.t 10))⟩),([0,1,2,3,7,8],⟨(some 12),(some (6,true)),(.call 107 [.t 11])⟩)] [⟨(some 13),(some (6,true)),(.bin .num .eql (.t 9) (.t 12))⟩,pk 14 (.t 6) (.t 13) (kb false),mo 15 14,⟨(some 16),(some (15,true)),(.faddr 1 (.t 1))⟩,⟨(some 17),(some (15,true)),(.load none (.t 16))⟩,⟨(some 18),(some (15,true)),(.call 108 [.t 17,(ki (-1000000000000)),ki 1000000000000])⟩,pk 19 (.t 15) (.t 18) (kb false),mo 2 19]) (kp [(2,0)] [] 0)) (.keep (kp [(2,0)] [] 0) .ret))),[.t 2]⟩
abbrev g17_S:=Sys.on [(90,g30_r),(107,g38_r),(108,g29_r)] []
def impl_ValidNumbers (a_n:List Int×List Int):Option (Bool):=(impl_ValidDims a_n.1).bind fun r1=>if r1=true then (impl_product a_n.1).bind fun r2=>if (a_n.2.length:Int)=r2 then (impl_allWithin a_n.2 ((-1000000000000)) 1000000000000).bind fun r3=>some r3 else some false else some false
@[simp] def g17_O:Bool→TV×List Blk:=fun r=>((.bool r),[])
def g17_E (a:(List Int×List Int)):List TV:=[(.agg [(.vs (rows a.1)),(.vs (rows a.2))])]
theorem g17_run (a_n:List Int×List Int) :callFn (X g17_S) g17_tf (g17_E a_n) []=(impl_ValidNumbers a_n).map g17_O:=by
  rw [callFn_eq]
  simp (maxSteps:=2000000) (maxDischargeDepth:=8) -implicitDefEqProofs [g17_tf,impl_ValidNumbers,g17_E] <;> (try simp only [map_to_bind,some_elim,g17_O])
def g17_r:Rule:=RlO g17_E (fun a=>impl_ValidNumbers a) g17_O
theorem g17_ok:RuleOk Tryd.prog 64 g17_r:=ok_rlo (S:=g17_S) (tf:=g17_tf) (SysOk.on ⟨g30_ok,g38_ok,g29_ok,trivial⟩ trivial) (trE_ok (ks:=[[10]]) Tryd.func64 (by kernel_rfl)) fun a=>g17_run a
@[simp] theorem g17_app (y0 y1):g17_r [(.agg [(.vs (rows y0)),(.vs (rows y1))])]=(impl_ValidNumbers ((y0,y1))).map g17_O :=
  RlO_app (enc:=g17_E) (by intro a b h;simp [g17_E,Prod.ext_iff] at h ⊢;simp [h]) ((y0,y1))
@[simp] theorem g17_app_a_n_1 (y0):g17_r [(.agg [(.vs (rows y0)),(.vs [])])]=(impl_ValidNumbers ((y0,([]:List Int)))).map g17_O :=
  g17_app y0 ([]:List Int) 
/-! strconv.FormatInt -/
noncomputable def strconv_FormatInt (n:Int):Option Str:=fmtS n
noncomputable def strconv_FormatInt_r:Rule:=fmt_r
@[simp] theorem strconv_FormatInt_app (y0):strconv_FormatInt_r [.int .i64 y0,.int .i64 10]=(strconv_FormatInt y0).map (fun r=>(.str r,[])):=fmtS_app y0
/-! impl.decimal -/
def g39_tf:TFn:=⟨(sq [mk 2 (.c (.str []))] [0] (.seq (.ops [mo 3 0,ca 4 130 [.t 3,ki 10],mo 2 4]) (.keep (kp [(2,0)] [] 0) .ret))),[.t 2]⟩
abbrev g39_S:=Sys.on [(130,strconv_FormatInt_r)] []
def impl_decimal (a_n:Int):Option (Str):=(strconv_FormatInt a_n).bind fun r1=>some r1
@[simp] def g39_O:Str→TV×List Blk:=fun r=>((.str r),[])
def g39_E (a:Int):List TV:=[(.int .i64 a)]
theorem g39_run (a_n:Int) :callFn (X g39_S) g39_tf (g39_E a_n) []=(impl_decimal a_n).map g39_O:=by
  rw [callFn_eq]
  simp (maxSteps:=2000000) (maxDischargeDepth:=8) -implicitDefEqProofs [g39_tf,impl_decimal,g39_E] <;> (try simp only [map_to_bind,some_elim,g39_O])
def g39_r:Rule:=RlO g39_E (fun a=>impl_decimal a) g39_O
theorem g39_ok:RuleOk Tryd.prog 92 g39_r:=ok_rlo (S:=g39_S) (tf:=g39_tf) (SysOk.on ⟨strconv_FormatInt_ok,trivial⟩ trivial) (trE_ok (ks:=[]) Tryd.func92 (by kernel_rfl)) fun a=>g39_run a
@[simp] theorem g39_app (y0):g39_r [(.int .i64 y0)]=(impl_decimal y0).map g39_O :=
  RlO_app (enc:=g39_E) (by intro a b h;simp [g39_E,Prod.ext_iff] at h ⊢;simp [h]) y0
/-! strings.Join -/
noncomputable def strings_Join (l:List Str) (s:Str):Option Str:=joinS l s
noncomputable def strings_Join_r:Rule:=join_r
@[simp] theorem strings_Join_app (y0 y1):strings_Join_r [.vs (rows y0),.str y1]=(strings_Join y0 y1).map (fun r=>(.str r,[])):=joinS_app y0 y1
/-! impl.listText -/
def g34l1_cb:TC:=(sq [bn 9 .lss (.t 8) (.t 7)] [3,6,7,8,9] (.seq (.cond (.t 9) .skip (.keep (kp [(3,1)] [(0,1)] 0) (.exit 0))) (.trim [3,6,7,8] (.seq (.block 1 (sq [ia 10 1 6 8,ld 11 10,mo 5 11] [3,5,6,7,8] (.ops [mo 12 3,mo 13 5,ca 14 92 [.t 13],oo 15 (.bslice [(.str [])] 1 [(0,(.t 14))]),oo 16 (.append 9 1 16 (.t 12) (.t 15)),mo 3 16]))) (.trim [3,6,7,8] (.after (.ops [bn 17 .add (.t 8) (ki 1),mo 8 17]) (kp [(3,1),(6,0),(7,0),(8,0)] [(2,1)] 0)))))))
def g34l1_c:TC:=.loop [3,6,7,8] g34l1_cb
def g34_tf:TFn:=⟨(sq [mk 2 (.c (.str []))] [0] (sq [mk 3 (.c .nils)] [0,3] (.seq (sq [mo 6 0,le 7 6,mk 8 (ki 0)] [3,6,7,8] (.block 0 (.keep (kp [(3,1),(6,0),(7,0),(8,0)] [(1000,1)] 0) g34l1_c))) (.trim [3] (.seq (.ops [mo 18 3,oo 19 (.call 85 [.t 18,(.c (.str [44]))]),mo 2 19]) (.keep (kp [(2,0)] [] 0) .ret)))))),[.t 2]⟩
abbrev g34_S:=Sys.on [(92,g39_r),(85,strings_Join_r)] []
@[reducible,simp] def g34l1_F:(List Str)→Out:=(fun t=>(.ext 0,[(3,(ow 0 t.length))],[(ob 1 t)]))
def impl_listText_l1_b (v2:List Int) (v3:Int) (v1:List Str) (v4:Int):Option ((List Str×Int) ⊕ (List Str)):=if v4 < v3 then if 0≤v4 then (v2[(v4).toNat]?).bind fun x5=>(impl_decimal x5).bind fun r6=>(appL 16 v1 ((lit [r6]:List Str))).bind fun l7=>some (.inl (l7,(IntKind.i64.wrap (v4+1)))) else none else some (.inr v1)
theorem g34l1_b_eq  (v2:List Int) (v3:Int) (v1:List Str) (v4:Int):X g34_S g34l1_cb (keepEnv [3,6,7,8] [(3,(ow 0 v1.length)),(6,(.vs (rows v2))),(7,(.int .i64 v3)),(8,(.int .i64 v4))]) [(ob 1 v1)]=(impl_listText_l1_b v2 v3 v1 v4).map (Sum.elim (fun s=>(TX.nrm,[(3,(ow 0 s.1.length)),(6,(.vs (rows v2))),(7,(.int .i64 v3)),(8,(.int .i64 s.2))],[(ob 1 s.1)])) g34l1_F):=by
  simp (maxSteps:=2000000) (maxDischargeDepth:=8) -implicitDefEqProofs [g34l1_cb,impl_listText_l1_b,bslV_lit (α:=Str) (zs:=[(.str [])])] <;> (try simp only [map_to_bind,some_elim,g34l1_F])
def impl_listText_l1 (v2:List Int) (v3:Int) (s:List Str×Int):Option (List Str):=loopO (fun s=>impl_listText_l1_b v2 v3 s.1 s.2) s
@[simp] theorem g34l1_eq (y0:List Str)(y1 y2 y3){n1:Nat}(h1:n1=y0.length):X g34_S g34l1_c [(3,(ow 0 n1)),(6,(.vs (rows y1))),(7,(.int .i64 y2)),(8,(.int .i64 y3))] [(ob 1 y0)]=(impl_listText_l1 y1 y2 (y0,y3)).map g34l1_F:=by
  subst h1
  exact loop_X _ _ _ _ (by intro r;first | (simp;done) | (rcases r with r | r <;> simp;done) | (rcases r with r | r | r <;> simp;done) | (rcases r with r | r | r | r <;> simp)) (fun s=>g34l1_b_eq  y1 y2 s.1 s.2) (y0,y3)
@[simp] theorem g34l1_eq_0 (y0 y1 y2):X g34_S g34l1_c [(3,.es),(6,(.vs (rows y0))),(7,(.int .i64 y1)),(8,(.int .i64 y2))] [.dead]=(impl_listText_l1 y0 y1 (([]:List Str),y2)).map g34l1_F :=
  g34l1_eq  ([]:List Str) y0 y1 y2 rfl
def impl_listText (a_list:List Int):Option (Str):=(impl_listText_l1 a_list ((a_list.length:Int)) ((([]:List Str),0))).bind fun r8=>(strings_Join r8 (([44]:Str))).bind fun r9=>some r9
@[simp] def g34_O:Str→TV×List Blk:=fun r=>((.str r),[])
def g34_E (a:List Int):List TV:=[(.vs (rows a))]
theorem g34_run (a_list:List Int) :callFn (X g34_S) g34_tf (g34_E a_list) []=(impl_listText a_list).map g34_O:=by
  rw [callFn_eq]
  simp (maxSteps:=2000000) (maxDischargeDepth:=8) -implicitDefEqProofs [g34_tf,impl_listText,g34_E,bslV_lit (α:=Str) (zs:=[(.str [])])] <;> (try simp only [map_to_bind,some_elim,g34_O])
def g34_r:Rule:=RlO g34_E (fun a=>impl_listText a) g34_O
theorem g34_ok:RuleOk Tryd.prog 84 g34_r:=ok_rlo (S:=g34_S) (tf:=g34_tf) (SysOk.on ⟨g39_ok,strings_Join_ok,trivial⟩ trivial) (trE_ok (ks:=[[3,6,7,8]]) Tryd.func84 (by kernel_rfl)) fun a=>g34_run a
@[simp] theorem g34_app (y0):g34_r [(.vs (rows y0))]=(impl_listText y0).map g34_O :=
  RlO_app (enc:=g34_E) (by intro a b h;simp [g34_E,Prod.ext_iff] at h ⊢;simp [h]) y0
/-! (impl.Numbers).text -/
def g19l1_cb:TC:=(sq [bn 16 .lss (.t 15) (.t 14)] [3,13,14,15,16] (.seq (.cond (.t 16) .skip (.keep (kp [(3,1)] [(0,1)] 0) (.exit 0))) (.trim [3,13,14,15] (.seq (.block 1 (sq [ia 17 1 13 15,ld 18 17,mo 5 18] [3,5,13,14,15] (.ops [mo 19 3,mo 20 5,ca 21 92 [.t 20],oo 22 (.bslice [(.str [])] 1 [(0,(.t 21))]),oo 23 (.append 9 1 16 (.t 19) (.t 22)),mo 3 23]))) (.trim [3,13,14,15] (.after (.ops [bn 24 .add (.t 15) (ki 1),mo 15 24]) (kp [(3,1),(13,0),(14,0),(15,0)] [(2,1)] 0)))))))
def g19l1_c:TC:=.loop [3,13,14,15] g19l1_cb
def g19_tf:TFn:=⟨(sq [bx 1 0,mk 2 (.c (.str []))] [1] (sq [fa 6 0 1,ld 7 6,ca 8 84 [.t 7],oo 9 (.bin .str .add (.c (.str [40])) (.t 8)),oo 10 (.bin .str .add (.t 9) (.c (.str [41]))),oo 11 (.bslice [(.str [])] 1 [(0,(.t 10))]),mo 3 11] [1,3] (.seq (sq [fa 12 1 1,ld 13 12,le 14 13,mk 15 (ki 0)] [3,13,14,15] (.block 0 (.keep (kp [(3,1),(13,0),(14,0),(15,0)] [(1,1)] 0) g19l1_c))) (.trim [3] (.seq (.ops [mo 25 3,oo 26 (.call 85 [.t 25,(.c (.str [32]))]),mo 2 26]) (.keep (kp [(2,0)] [] 0) .ret)))))),[.t 2]⟩
abbrev g19_S:=Sys.on [(84,g34_r),(92,g39_r),(85,strings_Join_r)] []
@[reducible,simp] def g19l1_F:(List Str)→Out:=(fun t=>(.ext 0,[(3,(ow 0 t.length))],[(ob 1 t)]))
def impl_Numbers_text_l1_b (v3:List Int) (v4:Int) (v2:List Str) (v5:Int):Option ((List Str×Int) ⊕ (List Str)):=if v5 < v4 then if 0≤v5 then (v3[(v5).toNat]?).bind fun x6=>(impl_decimal x6).bind fun r7=>(appL 16 v2 ((lit [r7]:List Str))).bind fun l8=>some (.inl (l8,(IntKind.i64.wrap (v5+1)))) else none else some (.inr v2)
theorem g19l1_b_eq  (v3:List Int) (v4:Int) (v2:List Str) (v5:Int):X g19_S g19l1_cb (keepEnv [3,13,14,15] [(3,(ow 0 v2.length)),(13,(.vs (rows v3))),(14,(.int .i64 v4)),(15,(.int .i64 v5))]) [(ob 1 v2)]=(impl_Numbers_text_l1_b v3 v4 v2 v5).map (Sum.elim (fun s=>(TX.nrm,[(3,(ow 0 s.1.length)),(13,(.vs (rows v3))),(14,(.int .i64 v4)),(15,(.int .i64 s.2))],[(ob 1 s.1)])) g19l1_F):=by
  simp (maxSteps:=2000000) (maxDischargeDepth:=8) -implicitDefEqProofs [g19l1_cb,impl_Numbers_text_l1_b,bslV_lit (α:=Str) (zs:=[(.str [])])] <;> (try simp only [map_to_bind,some_elim,g19l1_F])
def impl_Numbers_text_l1 (v3:List Int) (v4:Int) (s:List Str×Int):Option (List Str):=loopO (fun s=>impl_Numbers_text_l1_b v3 v4 s.1 s.2) s
@[simp] theorem g19l1_eq (y0:List Str)(y1 y2 y3){n1:Nat}(h1:n1=y0.length):X g19_S g19l1_c [(3,(ow 0 n1)),(13,(.vs (rows y1))),(14,(.int .i64 y2)),(15,(.int .i64 y3))] [(ob 1 y0)]=(impl_Numbers_text_l1 y1 y2 (y0,y3)).map g19l1_F:=by
  subst h1
  exact loop_X _ _ _ _ (by intro r;first | (simp;done) | (rcases r with r | r <;> simp;done) | (rcases r with r | r | r <;> simp;done) | (rcases r with r | r | r | r <;> simp)) (fun s=>g19l1_b_eq  y1 y2 s.1 s.2) (y0,y3)
def impl_Numbers_text (a_n:List Int×List Int):Option (Str):=(impl_listText a_n.1).bind fun r1=>if (([40]:Str)).length+r1.length≤9223372036854775807 then if ((([40]:Str)++r1)).length+(([41]:Str)).length≤9223372036854775807 then (impl_Numbers_text_l1 a_n.2 ((a_n.2.length:Int)) (((lit [((([40]:Str)++r1)++([41]:Str))]:List Str),0))).bind fun r9=>(strings_Join r9 (([32]:Str))).bind fun r10=>some r10 else none else none
@[simp] def g19_O:Str→TV×List Blk:=fun r=>((.str r),[])
def g19_E (a:(List Int×List Int)):List TV:=[(.agg [(.vs (rows a.1)),(.vs (rows a.2))])]
theorem g19_run (a_n:List Int×List Int) :callFn (X g19_S) g19_tf (g19_E a_n) []=(impl_Numbers_text a_n).map g19_O:=by
  rw [callFn_eq]
  simp (maxSteps:=2000000) (maxDischargeDepth:=8) -implicitDefEqProofs [g19_tf,impl_Numbers_text,g19_E,bslV_lit (α:=Str) (zs:=[(.str [])])] <;> (try simp only [map_to_bind,some_elim,g19_O])
def g19_r:Rule:=RlO g19_E (fun a=>impl_Numbers_text a) g19_O
theorem g19_ok:RuleOk Tryd.prog 65 g19_r:=ok_rlo (S:=g19_S) (tf:=g19_tf) (SysOk.on ⟨g34_ok,g39_ok,strings_Join_ok,trivial⟩ trivial) (trE_ok (ks:=[[3,13,14,15]]) Tryd.func65 (by kernel_rfl)) fun a=>g19_run a
@[simp] theorem g19_app (y0 y1):g19_r [(.agg [(.vs (rows y0)),(.vs (rows y1))])]=(impl_Numbers_text ((y0,y1))).map g19_O :=
  RlO_app (enc:=g19_E) (by intro a b h;simp [g19_E,Prod.ext_iff] at h ⊢;simp [h]) ((y0,y1))
@[simp] theorem g19_app_a_n_1 (y0):g19_r [(.agg [(.vs (rows y0)),(.vs [])])]=(impl_Numbers_text ((y0,([]:List Int)))).map g19_O :=
  g19_app y0 ([]:List Int) 
/-! impl.NumbersText -/
def g23_tf:TFn:=⟨(sq [bx 1 0,mk 2 (.c (.str []))] [1] (.seq (sq [ln 3 2 1,ca 4 64 [.t 3],nt 5 4] [1,5] (.cond (.t 5) (.seq (.ops [mk 2 (.c (.str []))]) (.keep (kp [(2,0)] [] 0) .ret)) .skip)) (.trim [1] (.seq (.ops [ln 6 2 1,ca 7 65 [.t 6],mo 2 7]) (.keep (kp [(2,0)] [] 0) .ret))))),[.t 2]⟩
abbrev g23_S:=Sys.on [(64,g17_r),(65,g19_r)] []
def impl_NumbersText (a_n:List Int×List Int):Option (Str):=(impl_ValidNumbers a_n).bind fun r1=>if ¬(r1=true) then some (([]:Str)) else (impl_Numbers_text a_n).bind fun r2=>some r2
@[simp] def g23_O:Str→TV×List Blk:=fun r=>((.str r),[])
def g23_E (a:(List Int×List Int)):List TV:=[(.agg [(.vs (rows a.1)),(.vs (rows a.2))])]
theorem g23_run (a_n:List Int×List Int) :callFn (X g23_S) g23_tf (g23_E a_n) []=(impl_NumbersText a_n).map g23_O:=by
  rw [callFn_eq]
  simp (maxSteps:=2000000) (maxDischargeDepth:=8) -implicitDefEqProofs [g23_tf,impl_NumbersText,g23_E] <;> (try simp only [map_to_bind,some_elim,g23_O])
def g23_r:Rule:=RlO g23_E (fun a=>impl_NumbersText a) g23_O
theorem g23_ok:RuleOk Tryd.prog 29 g23_r:=ok_rlo (S:=g23_S) (tf:=g23_tf) (SysOk.on ⟨g17_ok,g19_ok,trivial⟩ trivial) (trE_ok (ks:=[]) Tryd.func29 (by kernel_rfl)) fun a=>g23_run a
@[simp] theorem g23_app (y0 y1):g23_r [(.agg [(.vs (rows y0)),(.vs (rows y1))])]=(impl_NumbersText ((y0,y1))).map g23_O :=
  RlO_app (enc:=g23_E) (by intro a b h;simp [g23_E,Prod.ext_iff] at h ⊢;simp [h]) ((y0,y1))
/-! strings.Split -/
noncomputable def strings_Split (s:Str) (c:UInt8):Option (List Str):=splitS s c
noncomputable def strings_Split_r:Rule:=split_r
@[simp] theorem strings_Split_app (y0 y1):strings_Split_r [.str y0,.str [y1]]=(strings_Split y0 y1).map (fun r=>(.hs 0 0 r.length true,[.live 1 (rows r)])):=splitS_app y0 y1
/-! internal/stringslite.HasPrefix -/
def g2_tf:TFn:=⟨(sq [mk 4 (kb false)] [0,1] (.seq (.after (.ops [mo 5 0,oo 6 (.len true (.t 5)),mo 7 1,oo 8 (.len true (.t 7)),bn 9 .geq (.t 6) (.t 8),mo 10 9,⟨(some 11),(some (10,true)),(.mv (.t 0))⟩,⟨(some 12),(some (10,true)),(.mv (.t 1))⟩,⟨(some 13),(some (10,true)),(.len true (.t 12))⟩,⟨(some 14),(some (10,true)),(.sliceS (.t 11) none (some (.t 13)))⟩,⟨(some 15),(some (10,true)),(.mv (.t 1))⟩,⟨(some 16),(some (10,true)),(.bin .str .eql (.t 14) (.t 15))⟩,pk 17 (.t 10) (.t 16) (kb false),mo 4 17]) (kp [(4,0)] [] 0)) (.keep (kp [(4,0)] [] 0) .ret))),[.t 4]⟩
abbrev g2_S:=Sys.on [] []
def internal_stringslite_HasPrefix (a_s:Str) (a_prefix:Str):Option (Bool):=if (a_s.length:Int) ≥ (a_prefix.length:Int) then (subL a_s none (some ((a_prefix.length:Int)))).bind fun s1=>some ((decide (s1=a_prefix))) else some false
@[simp] def g2_O:Bool→TV×List Blk:=fun r=>((.bool r),[])
def g2_E (a:Str×Str):List TV:=[(.str a.1),(.str a.2)]
theorem g2_run (a_s:Str) (a_prefix:Str) :callFn (X g2_S) g2_tf (g2_E (a_s,a_prefix)) []=(internal_stringslite_HasPrefix a_s a_prefix).map g2_O:=by
  rw [callFn_eq]
  simp (maxSteps:=2000000) (maxDischargeDepth:=8) -implicitDefEqProofs [g2_tf,internal_stringslite_HasPrefix,g2_E] <;> (try simp only [map_to_bind,some_elim,g2_O])
def g2_r:Rule:=RlO g2_E (fun a=>internal_stringslite_HasPrefix a.1 a.2) g2_O
theorem g2_ok:RuleOk Tryd.prog 149 g2_r:=ok_rlo (S:=g2_S) (tf:=g2_tf) (SysOk.on trivial trivial) (trE_ok (ks:=[]) Tryd.func149 (by kernel_rfl)) fun a=>g2_run a.1 a.2
@[simp] theorem g2_app (y0 y1):g2_r [(.str y0),(.str y1)]=(internal_stringslite_HasPrefix y0 y1).map g2_O :=
  RlO_app (enc:=g2_E) (by intro a b h;simp [g2_E,Prod.ext_iff] at h ⊢;simp [h]) (y0,y1)
/-! internal/stringslite.CutPrefix -/
def g3_tf:TFn:=⟨(sq [mk 4 (.c (.str [])),mk 5 (kb false)] [0,1] (.seq (sq [mo 6 0,mo 7 1,ca 8 149 [.t 6,.t 7],nt 9 8] [0,1,9] (.cond (.t 9) (.seq (.ops [mo 10 0,mo 4 10,mk 5 (kb false)]) (.keep (kp [(4,0),(5,0)] [] 0) .ret)) .skip)) (.trim [0,1] (.seq (.ops [mo 11 0,mo 12 1,oo 13 (.len true (.t 12)),oo 14 (.sliceS (.t 11) (some (.t 13)) none),mo 4 14,mk 5 (kb true)]) (.keep (kp [(4,0),(5,0)] [] 0) .ret))))),[.t 4,.t 5]⟩
abbrev g3_S:=Sys.on [(149,g2_r)] []
def internal_stringslite_CutPrefix (a_s:Str) (a_prefix:Str):Option (Str×Bool):=(internal_stringslite_HasPrefix a_s a_prefix).bind fun r1=>if ¬(r1=true) then some (a_s,false) else (subL a_s (some ((a_prefix.length:Int))) none).bind fun s2=>some (s2,true)
@[simp] def g3_O:(Str×Bool)→TV×List Blk:=fun r=>((.tup [(.str r.1),(.bool r.2)]),[])
def g3_E (a:Str×Str):List TV:=[(.str a.1),(.str a.2)]
theorem g3_run (a_s:Str) (a_prefix:Str) :callFn (X g3_S) g3_tf (g3_E (a_s,a_prefix)) []=(internal_stringslite_CutPrefix a_s a_prefix).map g3_O:=by
  rw [callFn_eq]
  simp (maxSteps:=2000000) (maxDischargeDepth:=8) -implicitDefEqProofs [g3_tf,internal_stringslite_CutPrefix,g3_E] <;> (try simp only [map_to_bind,some_elim,g3_O])
def g3_r:Rule:=RlO g3_E (fun a=>internal_stringslite_CutPrefix a.1 a.2) g3_O
theorem g3_ok:RuleOk Tryd.prog 133 g3_r:=ok_rlo (S:=g3_S) (tf:=g3_tf) (SysOk.on ⟨g2_ok,trivial⟩ trivial) (trE_ok (ks:=[]) Tryd.func133 (by kernel_rfl)) fun a=>g3_run a.1 a.2
@[simp] theorem g3_app (y0 y1):g3_r [(.str y0),(.str y1)]=(internal_stringslite_CutPrefix y0 y1).map g3_O :=
  RlO_app (enc:=g3_E) (by intro a b h;simp [g3_E,Prod.ext_iff] at h ⊢;simp [h]) (y0,y1)
/-! strings.CutPrefix -/
def g20_tf:TFn:=⟨(sq [mk 4 (.c (.str [])),mk 5 (kb false)] [0,1] (.seq (.ops [mo 6 0,mo 7 1,ca 8 133 [.t 6,.t 7],oo 9 (.ext (.t 8) 0),oo 10 (.ext (.t 8) 1),mo 4 9,mo 5 10]) (.keep (kp [(4,0),(5,0)] [] 0) .ret))),[.t 4,.t 5]⟩
abbrev g20_S:=Sys.on [(133,g3_r)] []
def strings_CutPrefix (a_s:Str) (a_prefix:Str):Option (Str×Bool):=(internal_stringslite_CutPrefix a_s a_prefix).bind fun r1=>some (r1.1,r1.2)
@[simp] def g20_O:(Str×Bool)→TV×List Blk:=fun r=>((.tup [(.str r.1),(.bool r.2)]),[])
def g20_E (a:Str×Str):List TV:=[(.str a.1),(.str a.2)]
theorem g20_run (a_s:Str) (a_prefix:Str) :callFn (X g20_S) g20_tf (g20_E (a_s,a_prefix)) []=(strings_CutPrefix a_s a_prefix).map g20_O:=by
  rw [callFn_eq]
  simp (maxSteps:=2000000) (maxDischargeDepth:=8) -implicitDefEqProofs [g20_tf,strings_CutPrefix,g20_E] <;> (try simp only [map_to_bind,some_elim,g20_O])
def g20_r:Rule:=RlO g20_E (fun a=>strings_CutPrefix a.1 a.2) g20_O
theorem g20_ok:RuleOk Tryd.prog 97 g20_r:=ok_rlo (S:=g20_S) (tf:=g20_tf) (SysOk.on ⟨g3_ok,trivial⟩ trivial) (trE_ok (ks:=[]) Tryd.func97 (by kernel_rfl)) fun a=>g20_run a.1 a.2
@[simp] theorem g20_app (y0 y1):g20_r [(.str y0),(.str y1)]=(strings_CutPrefix y0 y1).map g20_O :=
  RlO_app (enc:=g20_E) (by intro a b h;simp [g20_E,Prod.ext_iff] at h ⊢;simp [h]) (y0,y1)
/-! internal/stringslite.HasSuffix -/
def g4_tf:TFn:=⟨(sq [mk 4 (kb false)] [0,1] (.seq (.after (.ops [mo 5 0,oo 6 (.len true (.t 5)),mo 7 1,oo 8 (.len true (.t 7)),bn 9 .geq (.t 6) (.t 8),mo 10 9,⟨(some 11),(some (10,true)),(.mv (.t 0))⟩,⟨(some 12),(some (10,true)),(.mv (.t 0))⟩,⟨(some 13),(some (10,true)),(.len true (.t 12))⟩,⟨(some 14),(some (10,true)),(.mv (.t 1))⟩,⟨(some 15),(some (10,true)),(.len true (.t 14))⟩,⟨(some 16),(some (10,true)),(.bin .num .sub (.t 13) (.t 15))⟩,⟨(some 17),(some (10,true)),(.sliceS (.t 11) (some (.t 16)) none)⟩,⟨(some 18),(some (10,true)),(.mv (.t 1))⟩,⟨(some 19),(some (10,true)),(.bin .str .eql (.t 17) (.t 18))⟩,pk 20 (.t 10) (.t 19) (kb false),mo 4 20]) (kp [(4,0)] [] 0)) (.keep (kp [(4,0)] [] 0) .ret))),[.t 4]⟩
abbrev g4_S:=Sys.on [] []
def internal_stringslite_HasSuffix (a_s:Str) (a_suffix:Str):Option (Bool):=if (a_s.length:Int) ≥ (a_suffix.length:Int) then (subL a_s (some ((IntKind.i64.wrap ((a_s.length:Int) - ((a_suffix.length:Int)))))) none).bind fun s1=>some ((decide (s1=a_suffix))) else some false
@[simp] def g4_O:Bool→TV×List Blk:=fun r=>((.bool r),[])
def g4_E (a:Str×Str):List TV:=[(.str a.1),(.str a.2)]
theorem g4_run (a_s:Str) (a_suffix:Str) :callFn (X g4_S) g4_tf (g4_E (a_s,a_suffix)) []=(internal_stringslite_HasSuffix a_s a_suffix).map g4_O:=by
  rw [callFn_eq]
  simp (maxSteps:=2000000) (maxDischargeDepth:=8) -implicitDefEqProofs [g4_tf,internal_stringslite_HasSuffix,g4_E] <;> (try simp only [map_to_bind,some_elim,g4_O])
def g4_r:Rule:=RlO g4_E (fun a=>internal_stringslite_HasSuffix a.1 a.2) g4_O
theorem g4_ok:RuleOk Tryd.prog 154 g4_r:=ok_rlo (S:=g4_S) (tf:=g4_tf) (SysOk.on trivial trivial) (trE_ok (ks:=[]) Tryd.func154 (by kernel_rfl)) fun a=>g4_run a.1 a.2
@[simp] theorem g4_app (y0 y1):g4_r [(.str y0),(.str y1)]=(internal_stringslite_HasSuffix y0 y1).map g4_O :=
  RlO_app (enc:=g4_E) (by intro a b h;simp [g4_E,Prod.ext_iff] at h ⊢;simp [h]) (y0,y1)
/-! internal/stringslite.CutSuffix -/
def g5_tf:TFn:=⟨(sq [mk 4 (.c (.str [])),mk 5 (kb false)] [0,1] (.seq (sq [mo 6 0,mo 7 1,ca 8 154 [.t 6,.t 7],nt 9 8] [0,1,9] (.cond (.t 9) (.seq (.ops [mo 10 0,mo 4 10,mk 5 (kb false)]) (.keep (kp [(4,0),(5,0)] [] 0) .ret)) .skip)) (.trim [0,1] (.seq (.ops [mo 11 0,mo 12 0,oo 13 (.len true (.t 12)),mo 14 1,oo 15 (.len true (.t 14)),bn 16 .sub (.t 13) (.t 15),oo 17 (.sliceS (.t 11) none (some (.t 16))),mo 4 17,mk 5 (kb true)]) (.keep (kp [(4,0),(5,0)] [] 0) .ret))))),[.t 4,.t 5]⟩
abbrev g5_S:=Sys.on [(154,g4_r)] []
def internal_stringslite_CutSuffix (a_s:Str) (a_suffix:Str):Option (Str×Bool):=(internal_stringslite_HasSuffix a_s a_suffix).bind fun r1=>if ¬(r1=true) then some (a_s,false) else (subL a_s none (some ((IntKind.i64.wrap ((a_s.length:Int) - ((a_suffix.length:Int))))))).bind fun s2=>some (s2,true)
@[simp] def g5_O:(Str×Bool)→TV×List Blk:=fun r=>((.tup [(.str r.1),(.bool r.2)]),[])
def g5_E (a:Str×Str):List TV:=[(.str a.1),(.str a.2)]
theorem g5_run (a_s:Str) (a_suffix:Str) :callFn (X g5_S) g5_tf (g5_E (a_s,a_suffix)) []=(internal_stringslite_CutSuffix a_s a_suffix).map g5_O:=by
  rw [callFn_eq]
  simp (maxSteps:=2000000) (maxDischargeDepth:=8) -implicitDefEqProofs [g5_tf,internal_stringslite_CutSuffix,g5_E] <;> (try simp only [map_to_bind,some_elim,g5_O])
def g5_r:Rule:=RlO g5_E (fun a=>internal_stringslite_CutSuffix a.1 a.2) g5_O
theorem g5_ok:RuleOk Tryd.prog 139 g5_r:=ok_rlo (S:=g5_S) (tf:=g5_tf) (SysOk.on ⟨g4_ok,trivial⟩ trivial) (trE_ok (ks:=[]) Tryd.func139 (by kernel_rfl)) fun a=>g5_run a.1 a.2
@[simp] theorem g5_app (y0 y1):g5_r [(.str y0),(.str y1)]=(internal_stringslite_CutSuffix y0 y1).map g5_O :=
  RlO_app (enc:=g5_E) (by intro a b h;simp [g5_E,Prod.ext_iff] at h ⊢;simp [h]) (y0,y1)
/-! strings.CutSuffix -/
def g21_tf:TFn:=⟨(sq [mk 4 (.c (.str [])),mk 5 (kb false)] [0,1] (.seq (.ops [mo 6 0,mo 7 1,ca 8 139 [.t 6,.t 7],oo 9 (.ext (.t 8) 0),oo 10 (.ext (.t 8) 1),mo 4 9,mo 5 10]) (.keep (kp [(4,0),(5,0)] [] 0) .ret))),[.t 4,.t 5]⟩
abbrev g21_S:=Sys.on [(139,g5_r)] []
def strings_CutSuffix (a_s:Str) (a_suffix:Str):Option (Str×Bool):=(internal_stringslite_CutSuffix a_s a_suffix).bind fun r1=>some (r1.1,r1.2)
@[simp] def g21_O:(Str×Bool)→TV×List Blk:=fun r=>((.tup [(.str r.1),(.bool r.2)]),[])
def g21_E (a:Str×Str):List TV:=[(.str a.1),(.str a.2)]
theorem g21_run (a_s:Str) (a_suffix:Str) :callFn (X g21_S) g21_tf (g21_E (a_s,a_suffix)) []=(strings_CutSuffix a_s a_suffix).map g21_O:=by
  rw [callFn_eq]
  simp (maxSteps:=2000000) (maxDischargeDepth:=8) -implicitDefEqProofs [g21_tf,strings_CutSuffix,g21_E] <;> (try simp only [map_to_bind,some_elim,g21_O])
def g21_r:Rule:=RlO g21_E (fun a=>strings_CutSuffix a.1 a.2) g21_O
theorem g21_ok:RuleOk Tryd.prog 104 g21_r:=ok_rlo (S:=g21_S) (tf:=g21_tf) (SysOk.on ⟨g5_ok,trivial⟩ trivial) (trE_ok (ks:=[]) Tryd.func104 (by kernel_rfl)) fun a=>g21_run a.1 a.2
@[simp] theorem g21_app (y0 y1):g21_r [(.str y0),(.str y1)]=(strings_CutSuffix y0 y1).map g21_O :=
  RlO_app (enc:=g21_E) (by intro a b h;simp [g21_E,Prod.ext_iff] at h ⊢;simp [h]) (y0,y1)
/-! impl.readDecimal -/
noncomputable def impl_readDecimal (s:Str):Option (Int×Bool):=rdecS s
noncomputable def impl_readDecimal_r:Rule:=rdec_r
@[simp] theorem impl_readDecimal_app (y0):impl_readDecimal_r [.str y0]=(impl_readDecimal y0).map (fun r=>(.tup [.int .i64 r.1,.bool r.2],[])):=rdecS_app y0
/-! impl.readList -/
def g36l1_cb:TC:=(sq [bn 15 .lss (.t 14) (.t 13)] [4,12,13,14,15] (.seq (.cond (.t 15) .skip (.keep (kp [(4,1)] [(0,1)] 0) (.exit 0))) (.trim [4,12,13,14] (.seq (.block 1 (sq [ia 16 1 12 14,ld 17 16,mo 6 17] [4,6,12,13,14] (sq [mo 19 6,ca 20 63 [.t 19],mo 18 20,oo 21 (.ext (.t 18) 0),oo 22 (.ext (.t 18) 1),mo 7 21,mo 8 22] [4,7,8,12,13,14] (.seq (sq [mo 23 8,nt 24 23] [4,7,12,13,14,24] (.cond (.t 24) (.seq (.ops [mk 2 (.c .nils),mk 3 (kb false)]) (.keep (kp [(2,1),(3,0)] [(1000,1)] 0) .ret)) .skip)) (.trim [4,7,12,13,14] (.ops [mo 25 4,mo 26 7,oo 27 (.bslice [(.int .i64 0)] 1 [(0,(.t 26))]),oo 28 (.append 2 1 8 (.t 25) (.t 27)),mo 4 28])))))) (.trim [4,12,13,14] (.after (.ops [bn 29 .add (.t 14) (ki 1),mo 14 29]) (kp [(4,1),(12,1),(13,0),(14,0)] [(3,1),(1,1)] 0)))))))
def g36l1_c:TC:=.loop [4,12,13,14] g36l1_cb
def g36_tf:TFn:=⟨(sq [mk 2 (.c .nils),mk 3 (kb false)] [0] (.seq (sq [mo 9 0,oo 10 (.bin .str .eql (.t 9) (.c (.str [])))] [0,10] (.cond (.t 10) (.seq (.ops [mk 2 (.c .nils),mk 3 (kb true)]) (.keep (kp [(2,1),(3,0)] [(1000,1)] 0) .ret)) .skip)) (.trim [0] (sq [mk 4 (.c .nils)] [0,4] (.seq (sq [mo 11 0,oo 12 (.call 61 [.t 11,(.c (.str [44]))]),le 13 12,mk 14 (ki 0)] [4,12,13,14] (.block 0 (.keep (kp [(4,1),(12,1),(13,0),(14,0)] [(1000,1),(0,1)] 0) g36l1_c))) (.trim [4] (.seq (.ops [mo 30 4,mo 2 30,mk 3 (kb true)]) (.keep (kp [(2,1),(3,0)] [(0,1)] 0) .ret)))))))),[.t 2,.t 3]⟩
abbrev g36_S:=Sys.on [(61,strings_Split_r),(63,impl_readDecimal_r)] []
@[reducible,simp] def g36l1_F:((List Int) ⊕ (List Int×Bool))→Out:=(Sum.elim (fun t=>(.ext 0,[(4,(ow 0 t.length))],[(ob 1 t)])) (fun t=>(.ret,[(2,(ow 0 t.1.length)),(3,(.bool t.2))],[(ob 1 t.1)])))
def impl_readList_l1_b (v3:List Str) (v4:Int) (v2:List Int) (v5:Int):Option ((List Int×Int) ⊕ ((List Int) ⊕ (List Int×Bool))):=if v5 < v4 then if 0≤v5∧v5 < ((v3.length:Nat):Int) then (v3[(v5).toNat]?).bind fun x6=>(impl_readDecimal x6).bind fun r7=>if ¬(r7.2=true) then some (.inr (.inr (([]:List Int),false))) else (appL 8 v2 ((lit [r7.1]:List Int))).bind fun l8=>some (.inl (l8,(IntKind.i64.wrap (v5+1)))) else none else some (.inr (.inl v2))
theorem g36l1_b_eq  (v3:List Str) (v4:Int) (v2:List Int) (v5:Int):X g36_S g36l1_cb (keepEnv [4,12,13,14] [(4,(ow 0 v2.length)),(12,(ow 1 v3.length)),(13,(.int .i64 v4)),(14,(.int .i64 v5))]) [(ob 1 v2),(ob 1 v3)]=(impl_readList_l1_b v3 v4 v2 v5).map (Sum.elim (fun s=>(TX.nrm,[(4,(ow 0 s.1.length)),(12,(ow 1 v3.length)),(13,(.int .i64 v4)),(14,(.int .i64 s.2))],[(ob 1 s.1),(ob 1 v3)])) g36l1_F):=by
  simp (maxSteps:=2000000) (maxDischargeDepth:=8) -implicitDefEqProofs [g36l1_cb,impl_readList_l1_b,bslV_lit (α:=Int) (zs:=[(.int .i64 0)])] <;> (try simp only [map_to_bind,some_elim,g36l1_F])
def impl_readList_l1 (v3:List Str) (v4:Int) (s:List Int×Int):Option ((List Int) ⊕ (List Int×Bool)):=loopO (fun s=>impl_readList_l1_b v3 v4 s.1 s.2) s
@[simp] theorem g36l1_eq (y0:List Int)(y1:List Str)(y2 y3){n1:Nat}(h1:n1=y0.length){n2:Nat}(h2:n2=y1.length):X g36_S g36l1_c [(4,(ow 0 n1)),(12,(ow 1 n2)),(13,(.int .i64 y2)),(14,(.int .i64 y3))] [(ob 1 y0),(ob 1 y1)]=(impl_readList_l1 y1 y2 (y0,y3)).map g36l1_F:=by
  subst h1 h2
  exact loop_X _ _ _ _ (by intro r;first | (simp;done) | (rcases r with r | r <;> simp;done) | (rcases r with r | r | r <;> simp;done) | (rcases r with r | r | r | r <;> simp)) (fun s=>g36l1_b_eq  y1 y2 s.1 s.2) (y0,y3)
@[simp] theorem g36l1_eq_0 (y0:List Str)(y1 y2){n1:Nat}(h1:n1=y0.length):X g36_S g36l1_c [(4,.es),(12,(ow 1 n1)),(13,(.int .i64 y1)),(14,(.int .i64 y2))] [.dead,(ob 1 y0)]=(impl_readList_l1 y0 y1 (([]:List Int),y2)).map g36l1_F :=
  g36l1_eq  ([]:List Int) y0 y1 y2 rfl h1
def impl_readList (a_s:Str):Option (List Int×Bool):=if a_s=([]:Str) then some (([]:List Int),true) else (strings_Split a_s 44).bind fun r1=>(impl_readList_l1 r1 (((r1.length:Nat):Int)) ((([]:List Int),0))).bind fun r9=>Sum.elim (fun u10=>some (u10,true)) (fun u11=>some (u11.1,u11.2)) r9
@[simp] def g36_O:(List Int×Bool)→TV×List Blk:=fun r=>((.tup [(ow 0 r.1.length),(.bool r.2)]),[(ob 1 r.1)])
def g36_E (a:Str):List TV:=[(.str a)]
theorem g36_run (a_s:Str) :callFn (X g36_S) g36_tf (g36_E a_s) []=(impl_readList a_s).map g36_O:=by
  rw [callFn_eq]
  simp (maxSteps:=2000000) (maxDischargeDepth:=8) -implicitDefEqProofs [g36_tf,impl_readList,g36_E,bslV_lit (α:=Int) (zs:=[(.int .i64 0)])] <;> (try simp only [map_to_bind,some_elim,g36_O])
def g36_r:Rule:=RlO g36_E (fun a=>impl_readList a) g36_O
theorem g36_ok:RuleOk Tryd.prog 105 g36_r:=ok_rlo (S:=g36_S) (tf:=g36_tf) (SysOk.on ⟨strings_Split_ok,impl_readDecimal_ok,trivial⟩ trivial) (trE_ok (ks:=[[4,12,13,14]]) Tryd.func105 (by kernel_rfl)) fun a=>g36_run a
@[simp] theorem g36_app (y0):g36_r [(.str y0)]=(impl_readList y0).map g36_O :=
  RlO_app (enc:=g36_E) (by intro a b h;simp [g36_E,Prod.ext_iff] at h ⊢;simp [h]) y0
/-! impl.readLists -/
def g31l1_cb:TC:=(sq [bn 36 .lss (.t 35) (.t 34)] [9,33,34,35,36] (.seq (.cond (.t 36) .skip (.keep (kp [(9,1)] [(0,1)] 0) (.exit 0))) (.trim [9,33,34,35] (.seq (.block 1 (sq [ia 37 1 33 35,ld 38 37,mo 11 38] [9,11,33,34,35] (sq [mo 40 11,ca 41 105 [.t 40],mo 39 41,oo 42 (.ext (.t 39) 0),oo 43 (.ext (.t 39) 1),mo 12 42,mo 13 43] [9,12,13,33,34,35] (.seq (sq [mo 44 13,nt 45 44] [9,12,33,34,35,45] (.cond (.t 45) (.seq (.ops [mk 4 (.c .nils),mk 5 (kb false)]) (.keep (kp [(4,1),(5,0)] [(1000,1)] 0) .ret)) .skip)) (.trim [9,12,33,34,35] (.ops [mo 46 9,mo 47 12,⟨(some 47),none,(.frz [2] (.t 47))⟩,oo 48 (.bslice [.nils] 1 [(0,(.t 47))]),oo 49 (.append 22 1 24 (.t 46) (.t 48)),mo 9 49])))))) (.trim [9,33,34,35] (.after (.ops [bn 50 .add (.t 35) (ki 1),mo 35 50]) (kp [(9,1),(33,1),(34,0),(35,0)] [(4,1),(1,1)] 0)))))))
def g31l1_c:TC:=.loop [9,33,34,35] g31l1_cb
def g31_tf:TFn:=⟨(sq [mk 4 (.c .nils),mk 5 (kb false)] [0,1] (sq [mo 15 0,mo 16 1,oo 17 (.bin .str .add (.t 16) (.c (.str [40]))),ca 18 97 [.t 15,.t 17],mo 14 18,oo 19 (.ext (.t 14) 0),oo 20 (.ext (.t 14) 1),mo 6 19,mo 7 20] [6,7] (sq [mo 22 6,oo 23 (.call 104 [.t 22,(.c (.str [41]))]),mo 21 23,oo 24 (.ext (.t 21) 0),oo 25 (.ext (.t 21) 1),mo 6 24,mo 8 25] [6,7,8] (.seq (sq [mo 26 7,nt 27 26,mo 28 27,⟨(some 29),(some (28,false)),(.mv (.t 8))⟩,⟨(some 30),(some (28,false)),(.un .not (.t 29))⟩,pk 31 (.t 28) (kb true) (.t 30)] [6,31] (.cond (.t 31) (.seq (.ops [mk 4 (.c .nils),mk 5 (kb false)]) (.keep (kp [(4,1),(5,0)] [(1000,1)] 0) .ret)) .skip)) (.trim [6] (sq [mk 9 (.c .nils)] [6,9] (.seq (sq [mo 32 6,oo 33 (.call 61 [.t 32,(.c (.str [59]))]),le 34 33,mk 35 (ki 0)] [9,33,34,35] (.block 0 (.keep (kp [(9,1),(33,1),(34,0),(35,0)] [(1000,1),(0,1)] 0) g31l1_c))) (.trim [9] (.seq (.ops [mo 51 9,mo 4 51,mk 5 (kb true)]) (.keep (kp [(4,1),(5,0)] [(0,1)] 0) .ret)))))))))),[.t 4,.t 5]⟩
abbrev g31_S:=Sys.on [(97,g20_r),(104,g21_r),(61,strings_Split_r),(105,g36_r)] []
@[reducible,simp] def g31l1_F:((List (List Int)) ⊕ (List (List Int)×Bool))→Out:=(Sum.elim (fun t=>(.ext 0,[(9,(ow 0 t.length))],[(ob 1 t)])) (fun t=>(.ret,[(4,(ow 0 t.1.length)),(5,(.bool t.2))],[(ob 1 t.1)])))
def impl_readLists_l1_b (v5:List Str) (v6:Int) (v4:List (List Int)) (v7:Int):Option ((List (List Int)×Int) ⊕ ((List (List Int)) ⊕ (List (List Int)×Bool))):=if v7 < v6 then if 0≤v7∧v7 < ((v5.length:Nat):Int) then (v5[(v7).toNat]?).bind fun x8=>(impl_readList x8).bind fun r9=>if ¬(r9.2=true) then some (.inr (.inr (([]:List (List Int)),false))) else (appL 24 v4 ((lit [r9.1]:List (List Int)))).bind fun l10=>some (.inl (l10,(IntKind.i64.wrap (v7+1)))) else none else some (.inr (.inl v4))
theorem g31l1_b_eq  (v5:List Str) (v6:Int) (v4:List (List Int)) (v7:Int):X g31_S g31l1_cb (keepEnv [9,33,34,35] [(9,(ow 0 v4.length)),(33,(ow 1 v5.length)),(34,(.int .i64 v6)),(35,(.int .i64 v7))]) [(ob 1 v4),(ob 1 v5)]=(impl_readLists_l1_b v5 v6 v4 v7).map (Sum.elim (fun s=>(TX.nrm,[(9,(ow 0 s.1.length)),(33,(ow 1 v5.length)),(34,(.int .i64 v6)),(35,(.int .i64 s.2))],[(ob 1 s.1),(ob 1 v5)])) g31l1_F):=by
  simp (maxSteps:=2000000) (maxDischargeDepth:=8) -implicitDefEqProofs [g31l1_cb,impl_readLists_l1_b,bslV_lit (α:=List Int) (zs:=[.nils])] <;> (try simp only [map_to_bind,some_elim,g31l1_F])
def impl_readLists_l1 (v5:List Str) (v6:Int) (s:List (List Int)×Int):Option ((List (List Int)) ⊕ (List (List Int)×Bool)):=loopO (fun s=>impl_readLists_l1_b v5 v6 s.1 s.2) s
@[simp] theorem g31l1_eq (y0:List (List Int))(y1:List Str)(y2 y3){n1:Nat}(h1:n1=y0.length){n2:Nat}(h2:n2=y1.length):X g31_S g31l1_c [(9,(ow 0 n1)),(33,(ow 1 n2)),(34,(.int .i64 y2)),(35,(.int .i64 y3))] [(ob 1 y0),(ob 1 y1)]=(impl_readLists_l1 y1 y2 (y0,y3)).map g31l1_F:=by
  subst h1 h2
  exact loop_X _ _ _ _ (by intro r;first | (simp;done) | (rcases r with r | r <;> simp;done) | (rcases r with r | r | r <;> simp;done) | (rcases r with r | r | r | r <;> simp)) (fun s=>g31l1_b_eq  y1 y2 s.1 s.2) (y0,y3)
@[simp] theorem g31l1_eq_0 (y0:List Str)(y1 y2){n1:Nat}(h1:n1=y0.length):X g31_S g31l1_c [(9,.es),(33,(ow 1 n1)),(34,(.int .i64 y1)),(35,(.int .i64 y2))] [.dead,(ob 1 y0)]=(impl_readLists_l1 y0 y1 (([]:List (List Int)),y2)).map g31l1_F :=
  g31l1_eq  ([]:List (List Int)) y0 y1 y2 rfl h1
def impl_readLists (a_s:Str) (a_word:Str):Option (List (List Int)×Bool):=if a_word.length+(([40]:Str)).length≤9223372036854775807 then (strings_CutPrefix a_s ((a_word++([40]:Str)))).bind fun r1=>(strings_CutSuffix r1.1 (([41]:Str))).bind fun r2=>if ¬(r1.2=true) then some (([]:List (List Int)),false) else if ¬(r2.2=true) then some (([]:List (List Int)),false) else (strings_Split r2.1 59).bind fun r3=>(impl_readLists_l1 r3 (((r3.length:Nat):Int)) ((([]:List (List Int)),0))).bind fun r11=>Sum.elim (fun u12=>some (u12,true)) (fun u13=>some (u13.1,u13.2)) r11 else none
@[simp] def g31_O:(List (List Int)×Bool)→TV×List Blk:=fun r=>((.tup [(ow 0 r.1.length),(.bool r.2)]),[(ob 1 r.1)])
def g31_E (a:Str×Str):List TV:=[(.str a.1),(.str a.2)]
theorem g31_run (a_s:Str) (a_word:Str) :callFn (X g31_S) g31_tf (g31_E (a_s,a_word)) []=(impl_readLists a_s a_word).map g31_O:=by
  rw [callFn_eq]
  simp (maxSteps:=2000000) (maxDischargeDepth:=8) -implicitDefEqProofs [g31_tf,impl_readLists,g31_E,bslV_lit (α:=List Int) (zs:=[.nils])] <;> (try simp only [map_to_bind,some_elim,g31_O])
def g31_r:Rule:=RlO g31_E (fun a=>impl_readLists a.1 a.2) g31_O
theorem g31_ok:RuleOk Tryd.prog 62 g31_r:=ok_rlo (S:=g31_S) (tf:=g31_tf) (SysOk.on ⟨g20_ok,g21_ok,strings_Split_ok,g36_ok,trivial⟩ trivial) (trE_ok (ks:=[[9,33,34,35]]) Tryd.func62 (by kernel_rfl)) fun a=>g31_run a.1 a.2
@[simp] theorem g31_app (y0 y1):g31_r [(.str y0),(.str y1)]=(impl_readLists y0 y1).map g31_O :=
  RlO_app (enc:=g31_E) (by intro a b h;simp [g31_E,Prod.ext_iff] at h ⊢;simp [h]) (y0,y1)
/-! impl.ReadNumbers -/
def g25p2_c:TC:=(.after (.ops [fa 49 1 7,ld 50 49,mo 51 10,oo 52 (.bslice [(.int .i64 0)] 1 [(0,(.t 51))]),oo 53 (.append 2 1 8 (.t 50) (.t 52)),fa 54 1 7,⟨none,none,(.store 1 (.t 54) (.t 53))⟩]) (kp [(0,0),(2,0),(6,0),(7,0),(34,0),(35,0),(36,0)] [(0,2),(1,2),(4,1)] 0))
def g25l1_cb:TC:=(sq [bn 37 .lss (.t 36) (.t 35)] [0,2,6,7,34,35,36,37] (.seq (.cond (.t 37) .skip (.keep (kp [(0,0),(2,0),(6,0),(7,0)] [(0,2),(1,2),(2,1)] 0) (.exit 0))) (.trim [0,2,6,7,34,35,36] (.seq (.block 1 (sq [ia 38 1 34 36,ld 39 38,mo 9 39] [0,2,6,7,9,34,35,36] (sq [mo 41 9,ca 42 63 [.t 41],mo 40 42,oo 43 (.ext (.t 40) 0),oo 44 (.ext (.t 40) 1),mo 10 43,mo 11 44] [0,2,6,7,10,11,34,35,36] (.seq (.after (.ops [mo 45 6,mo 46 45,⟨(some 47),(some (46,true)),(.mv (.t 11))⟩,pk 48 (.t 46) (.t 47) (kb false),mo 6 48]) (kp [(0,0),(2,0),(6,0),(7,0),(10,0),(34,0),(35,0),(36,0)] [(0,2),(1,2),(2,1)] 0)) (.trim [0,2,6,7,10,34,35,36] g25p2_c))))) (.trim [0,2,6,7,34,35,36] (.after (.ops [bn 55 .add (.t 36) (ki 1),mo 36 55]) (kp [(0,0),(2,0),(6,0),(7,0),(34,0),(35,0),(36,0)] [(0,2),(1,2),(2,1)] 0)))))))
def g25l1_c:TC:=.loop [0,2,6,7,34,35,36] g25l1_cb
def g25_tf:TFn:=⟨(sq [oo 2 (.alloc [.nils,.nils]),mk 3 (kb false)] [0,2] (sq [mo 12 0,oo 13 (.call 61 [.t 12,(.c (.str [32]))]),mo 4 13] [0,2,4] (sq [mo 15 4,oo 16 (.iaddr 1 (.t 15) (ki 0)),ld 17 16,oo 18 (.call 62 [.t 17,(.c (.str []))]),mo 14 18,oo 19 (.ext (.t 14) 0),oo 20 (.ext (.t 14) 1),mo 5 19,mo 6 20] [0,2,4,5,6] (.seq (sq [mo 21 6,nt 22 21,mo 23 22,⟨(some 24),(some (23,false)),(.mv (.t 5))⟩,⟨(some 25),(some (23,false)),(.len false (.t 24))⟩,⟨(some 26),(some (23,false)),(.bin .num .neq (.t 25) (ki 1))⟩,pk 27 (.t 23) (kb true) (.t 26)] [0,2,4,5,6,27] (.cond (.t 27) (.seq (.ops [oo 28 (.build [.nils,.nils] []),⟨none,none,(.store 2 (.t 2) (.t 28))⟩,mk 3 (kb false),⟨(some 2),none,(.frz [0] (.t 2))⟩]) (.keep (kp [(2,0),(3,0)] [] 0) .ret)) .skip)) (.trim [0,2,4,5,6] (sq [mo 29 5,oo 30 (.iaddr 1 (.t 29) (ki 0)),ld 31 30,oo 32 (.build [.nils,.nils] [(0,1,(.t 31))]),oo 7 (.alloc [.nils,.nils]),⟨none,none,(.store 2 (.t 7) (.t 32))⟩] [0,2,4,6,7] (.seq (sq [mo 33 4,⟨(some 33),none,(.frz [1] (.t 33))⟩,oo 34 (.slice 1 (.t 33) (some (ki 1)) none none),le 35 34,mk 36 (ki 0)] [0,2,6,7,34,35,36] (.block 0 (.keep (kp [(0,0),(2,0),(6,0),(7,0),(34,0),(35,0),(36,0)] [(0,2),(3,2),(1000,1)] 0) g25l1_c))) (.trim [0,2,6,7] (.seq (sq [mo 56 6,nt 57 56,mo 58 57,⟨(some 59),(some (58,false)),(.load (some 2) (.t 7))⟩,⟨(some 60),(some (58,false)),(.call 64 [.t 59])⟩,⟨(some 61),(some (58,false)),(.un .not (.t 60))⟩,pk 62 (.t 58) (kb true) (.t 61),mo 63 62,⟨(some 64),(some (63,false)),(.load (some 2) (.t 7))⟩,⟨(some 65),(some (63,false)),(.call 65 [.t 64])⟩,⟨(some 66),(some (63,false)),(.mv (.t 0))⟩,⟨(some 67),(some (63,false)),(.bin .str .neq (.t 65) (.t 66))⟩,pk 68 (.t 63) (kb true) (.t 67)] [2,7,68] (.cond (.t 68) (.seq (.ops [oo 69 (.build [.nils,.nils] []),⟨none,none,(.store 2 (.t 2) (.t 69))⟩,mk 3 (kb false),⟨(some 2),none,(.frz [0] (.t 2))⟩]) (.keep (kp [(2,0),(3,0)] [] 0) .ret)) .skip)) (.trim [2,7] (.seq (.ops [ln 70 2 7,⟨none,none,(.store 2 (.t 2) (.t 70))⟩,mk 3 (kb true),⟨(some 2),none,(.frz [0,2] (.t 2))⟩]) (.keep (kp [(2,0),(3,0)] [] 0) .ret)))))))))))),[.cell 2 (some 2),.t 3]⟩
abbrev g25_S:=Sys.on [(61,strings_Split_r),(62,g31_r),(63,impl_readDecimal_r),(64,g17_r),(65,g19_r)] []
@[reducible,simp] def g25p2_F:(Str×Bool×(List Int×List Int)×List Str×Int×Int)→Out:=(fun t=>(.nrm,[(0,(.str t.1)),(2,(.ptr 0 0 0)),(6,(.bool t.2.1)),(7,(.ptr 1 0 0)),(34,(.vs (rows t.2.2.2.1))),(35,(.int .i64 t.2.2.2.2.1)),(36,(.int .i64 t.2.2.2.2.2))],[(.live 2 [[.es,.es]]),(.live 2 [[(.vs (rows t.2.2.1.1)),(ow 2 t.2.2.1.2.length)]]),(ob 1 t.2.2.1.2)]))
def impl_ReadNumbers_p2 (v14:Str) (v15:Bool) (v16:List Int×List Int) (v17:Int) (v18:List Str) (v19:Int) (v20:Int):Option (Str×Bool×(List Int×List Int)×List Str×Int×Int):=(appL 8 v16.2 ((lit [v17]:List Int))).bind fun l21=>some ((v14,v15,(v16.1,l21),v18,v19,v20))
@[simp] theorem g25p2_eq (y0 y1 y2)(y3:List Int)(y4 y5 y6 y7){n1:Nat}(h1:n1=y3.length):X g25_S g25p2_c [(0,(.str y0)),(2,(.ptr 0 0 0)),(6,(.bool y1)),(7,(.ptr 1 0 0)),(10,(.int .i64 y4)),(34,(.vs (rows y5))),(35,(.int .i64 y6)),(36,(.int .i64 y7))] [(.live 2 [[.es,.es]]),(.live 2 [[(.vs (rows y2)),(ow 2 n1)]]),(ob 1 y3)]=(impl_ReadNumbers_p2 y0 y1 ((y2,y3)) y4 y5 y6 y7).map g25p2_F:=by
  subst h1
  simp (maxSteps:=2000000) (maxDischargeDepth:=8) -implicitDefEqProofs [g25p2_c,impl_ReadNumbers_p2,bslV_lit (α:=Int) (zs:=[(.int .i64 0)])] <;> (try simp only [map_to_bind,some_elim,g25p2_F])
@[reducible,simp] def g25l1_F:(Str×Bool×(List Int×List Int))→Out:=(fun t=>(.ext 0,[(0,(.str t.1)),(2,(.ptr 0 0 0)),(6,(.bool t.2.1)),(7,(.ptr 1 0 0))],[(.live 2 [[.es,.es]]),(.live 2 [[(.vs (rows t.2.2.1)),(ow 2 t.2.2.2.length)]]),(ob 1 t.2.2.2)]))
def impl_ReadNumbers_l1_b (v6:Str) (v7:Bool) (v8:List Int×List Int) (v9:List Str) (v10:Int) (v11:Int):Option ((Str×Bool×(List Int×List Int)×List Str×Int×Int) ⊕ (Str×Bool×(List Int×List Int))):=if v11 < v10 then if 0≤v11 then (v9[(v11).toNat]?).bind fun x12=>(impl_readDecimal x12).bind fun r13=>if v7=true then (impl_ReadNumbers_p2 v6 r13.2 v8 r13.1 v9 v10 v11).bind fun r22=>some (.inl (r22.1,r22.2.1,r22.2.2.1,r22.2.2.2.1,r22.2.2.2.2.1,(IntKind.i64.wrap (r22.2.2.2.2.2+1)))) else (impl_ReadNumbers_p2 v6 false v8 r13.1 v9 v10 v11).bind fun r23=>some (.inl (r23.1,r23.2.1,r23.2.2.1,r23.2.2.2.1,r23.2.2.2.2.1,(IntKind.i64.wrap (r23.2.2.2.2.2+1)))) else none else some (.inr (v6,v7,v8))
theorem g25l1_b_eq  (v6:Str) (v7:Bool) (v8:List Int×List Int) (v9:List Str) (v10:Int) (v11:Int):X g25_S g25l1_cb (keepEnv [0,2,6,7,34,35,36] [(0,(.str v6)),(2,(.ptr 0 0 0)),(6,(.bool v7)),(7,(.ptr 1 0 0)),(34,(.vs (rows v9))),(35,(.int .i64 v10)),(36,(.int .i64 v11))]) [(.live 2 [[.es,.es]]),(.live 2 [[(.vs (rows v8.1)),(ow 2 v8.2.length)]]),(ob 1 v8.2)]=(impl_ReadNumbers_l1_b v6 v7 v8 v9 v10 v11).map (Sum.elim (fun s=>(TX.nrm,[(0,(.str s.1)),(2,(.ptr 0 0 0)),(6,(.bool s.2.1)),(7,(.ptr 1 0 0)),(34,(.vs (rows s.2.2.2.1))),(35,(.int .i64 s.2.2.2.2.1)),(36,(.int .i64 s.2.2.2.2.2))],[(.live 2 [[.es,.es]]),(.live 2 [[(.vs (rows s.2.2.1.1)),(ow 2 s.2.2.1.2.length)]]),(ob 1 s.2.2.1.2)])) g25l1_F):=by
  simp (maxSteps:=2000000) (maxDischargeDepth:=8) -implicitDefEqProofs [g25l1_cb,impl_ReadNumbers_l1_b,bslV_lit (α:=Int) (zs:=[(.int .i64 0)])] <;> (try simp only [map_to_bind,some_elim,g25l1_F])
def impl_ReadNumbers_l1  (s:Str×Bool×(List Int×List Int)×List Str×Int×Int):Option (Str×Bool×(List Int×List Int)):=loopO (fun s=>impl_ReadNumbers_l1_b  s.1 s.2.1 s.2.2.1 s.2.2.2.1 s.2.2.2.2.1 s.2.2.2.2.2) s
@[simp] theorem g25l1_eq (y0 y1 y2)(y3:List Int)(y4 y5 y6){n1:Nat}(h1:n1=y3.length):X g25_S g25l1_c [(0,(.str y0)),(2,(.ptr 0 0 0)),(6,(.bool y1)),(7,(.ptr 1 0 0)),(34,(.vs (rows y4))),(35,(.int .i64 y5)),(36,(.int .i64 y6))] [(.live 2 [[.es,.es]]),(.live 2 [[(.vs (rows y2)),(ow 2 n1)]]),(ob 1 y3)]=(impl_ReadNumbers_l1  (y0,y1,(y2,y3),y4,y5,y6)).map g25l1_F:=by
  subst h1
  exact loop_X _ _ _ _ (by intro r;first | (simp;done) | (rcases r with r | r <;> simp;done) | (rcases r with r | r | r <;> simp;done) | (rcases r with r | r | r | r <;> simp)) (fun s=>g25l1_b_eq   s.1 s.2.1 s.2.2.1 s.2.2.2.1 s.2.2.2.2.1 s.2.2.2.2.2) (y0,y1,(y2,y3),y4,y5,y6)
@[simp] theorem g25l1_eq_2x1 (y0 y1 y2 y3 y4 y5):X g25_S g25l1_c [(0,(.str y0)),(2,(.ptr 0 0 0)),(6,(.bool y1)),(7,(.ptr 1 0 0)),(34,(.vs (rows y3))),(35,(.int .i64 y4)),(36,(.int .i64 y5))] [(.live 2 [[.es,.es]]),(.live 2 [[(.vs (rows y2)),.es]]),.dead]=(impl_ReadNumbers_l1  (y0,y1,(y2,([]:List Int)),y3,y4,y5)).map g25l1_F :=
  g25l1_eq  y0 y1 y2 ([]:List Int) y3 y4 y5 rfl
def impl_ReadNumbers (a_s:Str):Option (List Int×List Int×Bool):=(strings_Split a_s 32).bind fun r1=>if 0≤(0:Int)∧(0:Int) < ((r1.length:Nat):Int) then (r1[((0:Int)).toNat]?).bind fun x2=>(impl_readLists x2 (([]:Str))).bind fun r3=>if ¬(r3.2=true) then some (([]:List Int),([]:List Int),false) else if ¬(((r3.1.length:Nat):Int)=1) then some (([]:List Int),([]:List Int),false) else if 0≤(0:Int)∧(0:Int) < ((r3.1.length:Nat):Int) then (r3.1[((0:Int)).toNat]?).bind fun x4=>(subL r1 (some 1) none).bind fun l5=>(impl_ReadNumbers_l1 ((a_s,r3.2,(x4,([]:List Int)),l5,(l5.length:Int),0))).bind fun r24=>if ¬(r24.2.1=true) then some (([]:List Int),([]:List Int),false) else (impl_ValidNumbers r24.2.2).bind fun r25=>if ¬(r25=true) then some (([]:List Int),([]:List Int),false) else (impl_Numbers_text r24.2.2).bind fun r26=>if ¬(r26=r24.1) then some (([]:List Int),([]:List Int),false) else some (r24.2.2.1,r24.2.2.2,true) else none else none
@[simp] def g25_O:(List Int×List Int×Bool)→TV×List Blk:=fun r=>((.tup [(.agg [(.vs (rows r.1)),(.vs (rows r.2.1))]),(.bool r.2.2)]),[])
def g25_E (a:Str):List TV:=[(.str a)]
theorem g25_run (a_s:Str) :callFn (X g25_S) g25_tf (g25_E a_s) []=(impl_ReadNumbers a_s).map g25_O:=by
  rw [callFn_eq]
  simp (maxSteps:=2000000) (maxDischargeDepth:=8) -implicitDefEqProofs [g25_tf,impl_ReadNumbers,g25_E,bslV_lit (α:=Int) (zs:=[(.int .i64 0)])] <;> (try simp only [map_to_bind,some_elim,g25_O])
def g25_r:Rule:=RlO g25_E (fun a=>impl_ReadNumbers a) g25_O
theorem g25_ok:RuleOk Tryd.prog 24 g25_r:=ok_rlo (S:=g25_S) (tf:=g25_tf) (SysOk.on ⟨strings_Split_ok,g31_ok,impl_readDecimal_ok,g17_ok,g19_ok,trivial⟩ trivial) (trE_ok (ks:=[[0,2,6,7,34,35,36]]) Tryd.func24 (by kernel_rfl)) fun a=>g25_run a
@[simp] theorem g25_app (y0):g25_r [(.str y0)]=(impl_ReadNumbers y0).map g25_O :=
  RlO_app (enc:=g25_E) (by intro a b h;simp [g25_E,Prod.ext_iff] at h ⊢;simp [h]) y0
end
end Go.Proofs.TM
