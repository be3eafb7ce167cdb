/- Functions of the program, as functions of their data: written by program. -/
import Derived.Test.YtlajjnljeebkkaaDoorRP0
namespace Go.Proofs.TM
open Go Go.Proofs
set_option linter.unusedVariables false
set_option linter.unusedSimpArgs false
set_option maxHeartbeats 1000000
attribute [-simp] Option.map_bind strV_some
attribute [simp] guardOn_bool sA_bslice Function.comp_def
noncomputable section
/-! impl.isDigit -/
def g35_tf:TFn:=⟨(sq [mk 2 (kb false)] [0] (.seq (.after (.ops [mo 3 0,oo 4 (.bin .num .geq (.t 3) (.c (.int .u8 48))),mo 5 4,⟨(some 6),(some (5,true)),(.mv (.t 0))⟩,⟨(some 7),(some (5,true)),(.bin .num .leq (.t 6) (.c (.int .u8 57)))⟩,pk 8 (.t 5) (.t 7) (kb false),mo 2 8]) (kp [(2,0)] [] 0)) (.keep (kp [(2,0)] [] 0) .ret))),[.t 2]⟩
abbrev g35_S:=Sys.on [] []
def impl_isDigit (a_c:Int):Option (Bool):=if a_c ≥ 48 then some ((decide (a_c≤57))) else some false
@[simp] def g35_O:Bool→TV×List Blk:=fun r=>((.bool r),[])
def g35_E (a:Int):List TV:=[(.int .u8 a)]
theorem g35_run (a_c:Int) :callFn (X g35_S) g35_tf (g35_E a_c) []=(impl_isDigit a_c).map g35_O:=by
  rw [callFn_eq]
  simp (maxSteps:=2000000) (maxDischargeDepth:=8) -implicitDefEqProofs [g35_tf,impl_isDigit,g35_E] <;> (try simp only [map_to_bind,some_elim,g35_O])
def g35_r:Rule:=RlO g35_E (fun a=>impl_isDigit a) g35_O
theorem g35_ok:RuleOk Tryd.prog 129 g35_r:=ok_rlo (S:=g35_S) (tf:=g35_tf) (SysOk.on trivial trivial) (trE_ok (ks:=[]) Tryd.func129 (by kernel_rfl)) fun a=>g35_run a
@[simp] theorem g35_app (y0):g35_r [(.int .u8 y0)]=(impl_isDigit y0).map g35_O :=
  RlO_app (enc:=g35_E) (by intro a b h;simp [g35_E,Prod.ext_iff] at h ⊢;simp [h]) y0
/-! (*impl.scanner).word.1 -/
def g15_tf:TFn:=⟨(sq [mk 2 (kb false)] [0] (.seq (.after (.ops [mo 3 0,oo 4 (.bin .num .geq (.t 3) (.c (.int .u8 65))),mo 5 4,⟨(some 6),(some (5,true)),(.mv (.t 0))⟩,⟨(some 7),(some (5,true)),(.bin .num .leq (.t 6) (.c (.int .u8 90)))⟩,pk 8 (.t 5) (.t 7) (kb false),mo 9 8,⟨(some 10),(some (9,false)),(.mv (.t 0))⟩,⟨(some 11),(some (9,false)),(.bin .num .geq (.t 10) (.c (.int .u8 97)))⟩,⟨(some 12),(some (9,false)),(.mv (.t 11))⟩,⟨(some 13),(some (12,true)),(.mv (.t 0))⟩,⟨(some 14),(some (12,true)),(.bin .num .leq (.t 13) (.c (.int .u8 122)))⟩,⟨(some 15),(some (9,false)),(.pick (.t 12) (.t 14) (kb false))⟩,pk 16 (.t 9) (kb true) (.t 15),mo 17 16,⟨(some 18),(some (17,false)),(.mv (.t 0))⟩,⟨(some 19),(some (17,false)),(.call 129 [.t 18])⟩,pk 20 (.t 17) (kb true) (.t 19),mo 21 20,⟨(some 22),(some (21,false)),(.mv (.t 0))⟩,⟨(some 23),(some (21,false)),(.bin .num .eql (.t 22) (.c (.int .u8 95)))⟩,pk 24 (.t 21) (kb true) (.t 23),mo 2 24]) (kp [(2,0)] [] 0)) (.keep (kp [(2,0)] [] 0) .ret))),[.t 2]⟩
abbrev g15_S:=Sys.on [(129,g35_r)] []
def impl_scanner_word_c1 (a_c:Int):Option (Bool):=if a_c ≥ 65 then if a_c≤90 then some true else if a_c ≥ 97 then if a_c≤122 then some true else (impl_isDigit a_c).bind fun r1=>if r1=true then some true else some ((decide (a_c=95))) else (impl_isDigit a_c).bind fun r2=>if r2=true then some true else some ((decide (a_c=95))) else if a_c ≥ 97 then if a_c≤122 then some true else (impl_isDigit a_c).bind fun r3=>if r3=true then some true else some ((decide (a_c=95))) else (impl_isDigit a_c).bind fun r4=>if r4=true then some true else some ((decide (a_c=95)))
@[simp] def g15_O:Bool→TV×List Blk:=fun r=>((.bool r),[])
def g15_E (a:Int):List TV:=[(.int .u8 a)]
theorem g15_run (a_c:Int) :callFn (X g15_S) g15_tf (g15_E a_c) []=(impl_scanner_word_c1 a_c).map g15_O:=by
  rw [callFn_eq]
  simp (maxSteps:=2000000) (maxDischargeDepth:=8) -implicitDefEqProofs [g15_tf,impl_scanner_word_c1,g15_E] <;> (try simp only [map_to_bind,some_elim,g15_O])
def g15_r:Rule:=RlO g15_E (fun a=>impl_scanner_word_c1 a) g15_O
theorem g15_ok:RuleOk Tryd.prog 132 g15_r:=ok_rlo (S:=g15_S) (tf:=g15_tf) (SysOk.on ⟨g35_ok,trivial⟩ trivial) (trE_ok (ks:=[]) Tryd.func132 (by kernel_rfl)) fun a=>g15_run a
@[simp] theorem g15_app (y0):g15_r [(.int .u8 y0)]=(impl_scanner_word_c1 y0).map g15_O :=
  RlO_app (enc:=g15_E) (by intro a b h;simp [g15_E,Prod.ext_iff] at h ⊢;simp [h]) y0
/-! (*impl.scanner).while -/
def g10l1_cb:TC:=(.seq (sq [mo 7 5,mo 8 0,nk 9 8,fa 10 0 9,ld 11 10,oo 12 (.len true (.t 11)),bn 13 .lss (.t 7) (.t 12),mo 14 13,⟨(some 15),(some (14,true)),(.mv (.t 1))⟩,⟨(some 16),(some (14,true)),(.mv (.t 0))⟩,⟨(some 17),(some (14,true)),(.nilchk (.t 16))⟩,⟨(some 18),(some (14,true)),(.faddr 0 (.t 17))⟩,⟨(some 19),(some (14,true)),(.load none (.t 18))⟩,⟨(some 20),(some (14,true)),(.mv (.t 5))⟩,⟨(some 21),(some (14,true)),(.index (.t 19) (.t 20))⟩,⟨(some 22),(some (14,true)),(.callv (.t 15) [.t 21])⟩,pk 23 (.t 14) (.t 22) (kb false)] [0,1,5,23] (.cond (.t 23) .skip (.keep (kp [(0,0),(5,0)] [(0,0)] 1) (.exit 0)))) (.trim [0,1,5] (.block 1 (.after (.ops [mo 24 5,bn 25 .add (.t 24) (ki 1),mo 5 25]) (kp [(0,0),(1,0),(5,0)] [(0,0)] 1)))))
def g10l1_c:TC:=.loop [0,1,5] g10l1_cb
def g10_tf:TFn:=⟨(sq [mk 4 (.c (.str []))] [0,1] (sq [mk 5 (ki 0)] [0,1,5] (.seq (.block 0 (.keep (kp [(0,0),(1,0),(5,0)] [(0,0)] 1) g10l1_c)) (.trim [0,5] (sq [mo 26 0,nk 27 26,fa 28 0 27,ld 29 28,mo 30 5,oo 31 (.sliceS (.t 29) none (some (.t 30))),mo 6 31] [0,5,6] (sq [mo 32 0,mo 33 0,nk 34 33,fa 35 0 34,ld 36 35,mo 37 5,oo 38 (.sliceS (.t 36) (some (.t 37)) none),nk 39 32,fa 40 0 39,⟨none,none,(.store 1 (.t 40) (.t 38))⟩] [6] (.seq (.ops [mo 41 6,mo 4 41]) (.keep (kp [(4,0)] [(0,0)] 1) .ret)))))))),[.t 4]⟩
abbrev g10_S:=Sys.on [(132,g15_r)] []
@[reducible,simp] def g10l1_F:((Str×Bool)×Int)→Out:=(fun t=>(.ext 0,[(0,(.ptr 0 0 0)),(5,(.int .i64 t.2))],[(.live 2 [[(.str t.1.1),(.bool t.1.2)]])]))
def impl_scanner_while_o1f_l1_b (v1:Str×Bool) (v2:Int):Option ((Int) ⊕ ((Str×Bool)×Int)):=if v2 < (v1.1.length:Int) then if 0≤v2 then (v1.1[(v2).toNat]?).bind fun (b3:UInt8)=>(impl_scanner_word_c1 ((b3.toNat:Int))).bind fun r4=>if r4=true then some (.inl ((IntKind.i64.wrap (v2+1)))) else some (.inr (v1,v2)) else none else some (.inr (v1,v2))
theorem g10l1_b_eq  (v1:Str×Bool) (v2:Int):X g10_S g10l1_cb (keepEnv [0,1,5] [(0,(.ptr 0 0 0)),(1,(.fn 132 [] [])),(5,(.int .i64 v2))]) [(.live 2 [[(.str v1.1),(.bool v1.2)]])]=(impl_scanner_while_o1f_l1_b v1 v2).map (Sum.elim (fun s=>(TX.nrm,[(0,(.ptr 0 0 0)),(1,(.fn 132 [] [])),(5,(.int .i64 s))],[(.live 2 [[(.str v1.1),(.bool v1.2)]])])) g10l1_F):=by
  simp (maxSteps:=2000000) (maxDischargeDepth:=8) -implicitDefEqProofs [g10l1_cb,impl_scanner_while_o1f_l1_b] <;> (try simp only [map_to_bind,some_elim,g10l1_F])
def impl_scanner_while_o1f_l1 (v1:Str×Bool) (s:Int):Option ((Str×Bool)×Int):=loopO (fun s=>impl_scanner_while_o1f_l1_b v1 s) s
@[simp] theorem g10l1_eq (y0 y1 y2):X g10_S g10l1_c [(0,(.ptr 0 0 0)),(1,(.fn 132 [] [])),(5,(.int .i64 y2))] [(.live 2 [[(.str y0),(.bool y1)]])]=(impl_scanner_while_o1f_l1 ((y0,y1)) y2).map g10l1_F:=by
  exact loop_X _ _ _ _ (by intro r;first | (simp;done) | (rcases r with r | r <;> simp;done) | (rcases r with r | r | r <;> simp;done) | (rcases r with r | r | r | r <;> simp)) (fun s=>g10l1_b_eq  ((y0,y1)) s) y2
def impl_scanner_while_o1f (a1:Str×Bool):Option ((Str×Bool)×Str):=(impl_scanner_while_o1f_l1 a1 0).bind fun r5=>(subL r5.1.1 none (some r5.2)).bind fun s6=>(subL r5.1.1 (some r5.2) none).bind fun s7=>some ((s7,r5.1.2),s6)
@[simp] def g10_O:((Str×Bool)×Str)→TV×List Blk:=fun r=>((.str r.2),[(.live 2 [[(.str r.1.1),(.bool r.1.2)]])])
abbrev g10_T:=(Str×Bool)
def g10_E (a:g10_T):List TV:=[(.ptr 0 0 0),(.fn 132 [] [])]
def g10_B (a:g10_T):List Blk:=[(.live 2 [[(.str a.1),(.bool a.2)]])]
theorem g10_run (a1:Str×Bool) :callFn (X g10_S) g10_tf (g10_E a1) (g10_B a1)=(impl_scanner_while_o1f a1).map g10_O:=by
  rw [callFn_eq]
  simp (maxSteps:=2000000) (maxDischargeDepth:=8) -implicitDefEqProofs [g10_tf,impl_scanner_while_o1f,g10_E,g10_B] <;> (try simp only [map_to_bind,some_elim,g10_O])
def g10_r:MRule:=RmO g10_E g10_B (fun a=>impl_scanner_while_o1f a) g10_O
theorem g10_ok:MRuleOk Tryd.prog 127 1 g10_r:=ok_rmo (S:=g10_S) (tf:=g10_tf) (SysOk.on ⟨g15_ok,trivial⟩ trivial) (trE_ok (ks:=[[0,1,5]]) Tryd.func127 (by kernel_rfl)) (by rfl) (fun _=>by simp [g10_B]) (fun _=>by simp) fun a=>g10_run a
@[simp] theorem g10_app (y0 y1):g10_r [(.ptr 0 0 0),(.fn 132 [] [])] [(.live 2 [[(.str y0),(.bool y1)]])]=(impl_scanner_while_o1f ((y0,y1))).map g10_O:=by
  exact RmO_app (enc:=g10_E) (encB:=g10_B) (by intro a b h h2;simp [g10_E,g10_B,Prod.ext_iff] at h h2 ⊢;simp [h,h2]) ((y0,y1))
/-! (*impl.scanner).word -/
def g13_tf:TFn:=⟨(sq [mk 2 (.c (.str []))] [0] (.seq (.ops [mo 3 0,oo 4 (.callM 127 0 [0] [.t 3,(.c (.fn 132 [] []))]),mo 2 4]) (.keep (kp [(2,0)] [(0,0)] 1) .ret))),[.t 2]⟩
abbrev g13_S:=Sys.on [] [((127,0),(1,g10_r))]
def impl_scanner_word_od0 (a1:Str×Bool):Option ((Str×Bool)×Str):=(impl_scanner_while_o1f a1).bind fun r1=>some (r1.1,r1.2)
@[simp] def g13_O:((Str×Bool)×Str)→TV×List Blk:=fun r=>((.str r.2),[(.live 2 [[(.str r.1.1),(.bool r.1.2)]])])
abbrev g13_T:=(Str×Bool)
def g13_E (a:g13_T):List TV:=[(.ptr 0 0 0)]
def g13_B (a:g13_T):List Blk:=[(.live 2 [[(.str a.1),(.bool a.2)]])]
theorem g13_run (a1:Str×Bool) :callFn (X g13_S) g13_tf (g13_E a1) (g13_B a1)=(impl_scanner_word_od0 a1).map g13_O:=by
  rw [callFn_eq]
  simp (maxSteps:=2000000) (maxDischargeDepth:=8) -implicitDefEqProofs [g13_tf,impl_scanner_word_od0,g13_E,g13_B] <;> (try simp only [map_to_bind,some_elim,g13_O])
def g13_r:MRule:=RmO g13_E g13_B (fun a=>impl_scanner_word_od0 a) g13_O
theorem g13_ok:MRuleOk Tryd.prog 96 1 g13_r:=ok_rmo (S:=g13_S) (tf:=g13_tf) (SysOk.on trivial ⟨g10_ok,trivial⟩) (trE_ok (ks:=[]) Tryd.func96 (by kernel_rfl)) (by rfl) (fun _=>by simp [g13_B]) (fun _=>by simp) fun a=>g13_run a
@[simp] theorem g13_app (y0 y1):g13_r [(.ptr 0 0 0)] [(.live 2 [[(.str y0),(.bool y1)]])]=(impl_scanner_word_od0 ((y0,y1))).map g13_O:=by
  exact RmO_app (enc:=g13_E) (encB:=g13_B) (by intro a b h h2;simp [g13_E,g13_B,Prod.ext_iff] at h h2 ⊢;simp [h,h2]) ((y0,y1))
/-! slices.Index[[]string,string] -/
def g4l1_cb:TC:=(sq [bn 9 .lss (.t 8) (.t 7)] [0,1,7,8,9] (.seq (.cond (.t 9) .skip (.keep (kp [] [] 0) (.exit 0))) (.trim [0,1,7,8] (.seq (.block 1 (sq [mo 10 8,mo 5 10] [0,1,5,7,8] (sq [mo 11 1,mo 12 0,mo 13 5,ia 14 1 12 13,ld 15 14,oo 16 (.bin .str .eql (.t 11) (.t 15))] [0,1,5,7,8,16] (.cond (.t 16) (.seq (.ops [mo 17 5,mo 4 17]) (.keep (kp [(4,0)] [] 0) .ret)) .skip)))) (.trim [0,1,7,8] (.after (.ops [bn 18 .add (.t 8) (ki 1),mo 8 18]) (kp [(0,0),(1,0),(7,0),(8,0)] [] 0)))))))
def g4l1_c:TC:=.loop [0,1,7,8] g4l1_cb
def g4_tf:TFn:=⟨(sq [mk 4 (ki 0)] [0,1] (.seq (sq [mo 6 0,le 7 6,mk 8 (ki 0)] [0,1,7,8] (.block 0 (.keep (kp [(0,0),(1,0),(7,0),(8,0)] [] 0) g4l1_c))) (.trim [] (.seq (.ops [mk 4 (ki (-1))]) (.keep (kp [(4,0)] [] 0) .ret))))),[.t 4]⟩
abbrev g4_S:=Sys.on [] []
@[reducible,simp] def g4l1_F:((Unit) ⊕ (Int))→Out:=(Sum.elim (fun t=>(.ext 0,[],[])) (fun t=>(.ret,[(4,(.int .i64 t))],[])))
def slices_Index_string_string__l1_b (v1:List Str) (v2:Str) (v3:Int) (v4:Int):Option ((Int) ⊕ ((Unit) ⊕ (Int))):=if v4 < v3 then if 0≤v4 then (v1[(v4).toNat]?).bind fun x5=>if v2=x5 then some (.inr (.inr v4)) else some (.inl ((IntKind.i64.wrap (v4+1)))) else none else some (.inr (.inl ()))
theorem g4l1_b_eq  (v1:List Str) (v2:Str) (v3:Int) (v4:Int):X g4_S g4l1_cb (keepEnv [0,1,7,8] [(0,(.vs (rows v1))),(1,(.str v2)),(7,(.int .i64 v3)),(8,(.int .i64 v4))]) []=(slices_Index_string_string__l1_b v1 v2 v3 v4).map (Sum.elim (fun s=>(TX.nrm,[(0,(.vs (rows v1))),(1,(.str v2)),(7,(.int .i64 v3)),(8,(.int .i64 s))],[])) g4l1_F):=by
  simp (maxSteps:=2000000) (maxDischargeDepth:=8) -implicitDefEqProofs [g4l1_cb,slices_Index_string_string__l1_b] <;> (try simp only [map_to_bind,some_elim,g4l1_F])
def slices_Index_string_string__l1 (v1:List Str) (v2:Str) (v3:Int) (s:Int):Option ((Unit) ⊕ (Int)):=loopO (fun s=>slices_Index_string_string__l1_b v1 v2 v3 s) s
@[simp] theorem g4l1_eq (y0 y1 y2 y3):X g4_S g4l1_c [(0,(.vs (rows y0))),(1,(.str y1)),(7,(.int .i64 y2)),(8,(.int .i64 y3))] []=(slices_Index_string_string__l1 y0 y1 y2 y3).map g4l1_F:=by
  exact loop_X _ _ _ _ (by intro r;first | (simp;done) | (rcases r with r | r <;> simp;done) | (rcases r with r | r | r <;> simp;done) | (rcases r with r | r | r | r <;> simp)) (fun s=>g4l1_b_eq  y0 y1 y2 s) y3
def slices_Index_string_string_ (a_s:List Str) (a_v:Str):Option (Int):=(slices_Index_string_string__l1 a_s a_v ((a_s.length:Int)) 0).bind fun r6=>Sum.elim (fun u7=>some ((-1))) (fun u8=>some u8) r6
@[simp] def g4_O:Int→TV×List Blk:=fun r=>((.int .i64 r),[])
def g4_E (a:List Str×Str):List TV:=[(.vs (rows a.1)),(.str a.2)]
theorem g4_run (a_s:List Str) (a_v:Str) :callFn (X g4_S) g4_tf (g4_E (a_s,a_v)) []=(slices_Index_string_string_ a_s a_v).map g4_O:=by
  rw [callFn_eq]
  simp (maxSteps:=2000000) (maxDischargeDepth:=8) -implicitDefEqProofs [g4_tf,slices_Index_string_string_,g4_E] <;> (try simp only [map_to_bind,some_elim,g4_O])
def g4_r:Rule:=RlO g4_E (fun a=>slices_Index_string_string_ a.1 a.2) g4_O
theorem g4_ok:RuleOk Tryd.prog 95 g4_r:=ok_rlo (S:=g4_S) (tf:=g4_tf) (SysOk.on trivial trivial) (trE_ok (ks:=[[0,1,7,8]]) Tryd.func95 (by kernel_rfl)) fun a=>g4_run a.1 a.2
@[simp] theorem g4_app (y0 y1):g4_r [(.vs (rows y0)),(.str y1)]=(slices_Index_string_string_ y0 y1).map g4_O :=
  RlO_app (enc:=g4_E) (by intro a b h;simp [g4_E,Prod.ext_iff] at h ⊢;simp [h]) (y0,y1)
/-! internal/stringslite.HasPrefix -/
def g2_tf:TFn:=⟨(sq [mk 4 (kb false)] [0,1] (.seq (.after (.ops [mo 5 0,oo 6 (.len true (.t 5)),mo 7 1,oo 8 (.len true (.t 7)),bn 9 .geq (.t 6) (.t 8),mo 10 9,⟨(some 11),(some (10,true)),(.mv (.t 0))⟩,⟨(some 12),(some (10,true)),(.mv (.t 1))⟩,⟨(some 13),(some (10,true)),(.len true (.t 12))⟩,⟨(some 14),(some (10,true)),(.sliceS (.t 11) none (some (.t 13)))⟩,⟨(some 15),(some (10,true)),(.mv (.t 1))⟩,⟨(some 16),(some (10,true)),(.bin .str .eql (.t 14) (.t 15))⟩,pk 17 (.t 10) (.t 16) (kb false),mo 4 17]) (kp [(4,0)] [] 0)) (.keep (kp [(4,0)] [] 0) .ret))),[.t 4]⟩
abbrev g2_S:=Sys.on [] []
def internal_stringslite_HasPrefix (a_s:Str) (a_prefix:Str):Option (Bool):=if (a_s.length:Int) ≥ (a_prefix.length:Int) then (subL a_s none (some ((a_prefix.length:Int)))).bind fun s1=>some ((decide (s1=a_prefix))) else some false
@[simp] def g2_O:Bool→TV×List Blk:=fun r=>((.bool r),[])
def g2_E (a:Str×Str):List TV:=[(.str a.1),(.str a.2)]
theorem g2_run (a_s:Str) (a_prefix:Str) :callFn (X g2_S) g2_tf (g2_E (a_s,a_prefix)) []=(internal_stringslite_HasPrefix a_s a_prefix).map g2_O:=by
  rw [callFn_eq]
  simp (maxSteps:=2000000) (maxDischargeDepth:=8) -implicitDefEqProofs [g2_tf,internal_stringslite_HasPrefix,g2_E] <;> (try simp only [map_to_bind,some_elim,g2_O])
def g2_r:Rule:=RlO g2_E (fun a=>internal_stringslite_HasPrefix a.1 a.2) g2_O
theorem g2_ok:RuleOk Tryd.prog 149 g2_r:=ok_rlo (S:=g2_S) (tf:=g2_tf) (SysOk.on trivial trivial) (trE_ok (ks:=[]) Tryd.func149 (by kernel_rfl)) fun a=>g2_run a.1 a.2
@[simp] theorem g2_app (y0 y1):g2_r [(.str y0),(.str y1)]=(internal_stringslite_HasPrefix y0 y1).map g2_O :=
  RlO_app (enc:=g2_E) (by intro a b h;simp [g2_E,Prod.ext_iff] at h ⊢;simp [h]) (y0,y1)
/-! internal/stringslite.CutPrefix -/
def g3_tf:TFn:=⟨(sq [mk 4 (.c (.str [])),mk 5 (kb false)] [0,1] (.seq (sq [mo 6 0,mo 7 1,ca 8 149 [.t 6,.t 7],nt 9 8] [0,1,9] (.cond (.t 9) (.seq (.ops [mo 10 0,mo 4 10,mk 5 (kb false)]) (.keep (kp [(4,0),(5,0)] [] 0) .ret)) .skip)) (.trim [0,1] (.seq (.ops [mo 11 0,mo 12 1,oo 13 (.len true (.t 12)),oo 14 (.sliceS (.t 11) (some (.t 13)) none),mo 4 14,mk 5 (kb true)]) (.keep (kp [(4,0),(5,0)] [] 0) .ret))))),[.t 4,.t 5]⟩
abbrev g3_S:=Sys.on [(149,g2_r)] []
def internal_stringslite_CutPrefix (a_s:Str) (a_prefix:Str):Option (Str×Bool):=(internal_stringslite_HasPrefix a_s a_prefix).bind fun r1=>if ¬(r1=true) then some (a_s,false) else (subL a_s (some ((a_prefix.length:Int))) none).bind fun s2=>some (s2,true)
@[simp] def g3_O:(Str×Bool)→TV×List Blk:=fun r=>((.tup [(.str r.1),(.bool r.2)]),[])
def g3_E (a:Str×Str):List TV:=[(.str a.1),(.str a.2)]
theorem g3_run (a_s:Str) (a_prefix:Str) :callFn (X g3_S) g3_tf (g3_E (a_s,a_prefix)) []=(internal_stringslite_CutPrefix a_s a_prefix).map g3_O:=by
  rw [callFn_eq]
  simp (maxSteps:=2000000) (maxDischargeDepth:=8) -implicitDefEqProofs [g3_tf,internal_stringslite_CutPrefix,g3_E] <;> (try simp only [map_to_bind,some_elim,g3_O])
def g3_r:Rule:=RlO g3_E (fun a=>internal_stringslite_CutPrefix a.1 a.2) g3_O
theorem g3_ok:RuleOk Tryd.prog 133 g3_r:=ok_rlo (S:=g3_S) (tf:=g3_tf) (SysOk.on ⟨g2_ok,trivial⟩ trivial) (trE_ok (ks:=[]) Tryd.func133 (by kernel_rfl)) fun a=>g3_run a.1 a.2
@[simp] theorem g3_app (y0 y1):g3_r [(.str y0),(.str y1)]=(internal_stringslite_CutPrefix y0 y1).map g3_O :=
  RlO_app (enc:=g3_E) (by intro a b h;simp [g3_E,Prod.ext_iff] at h ⊢;simp [h]) (y0,y1)
/-! strings.CutPrefix -/
def g20_tf:TFn:=⟨(sq [mk 4 (.c (.str [])),mk 5 (kb false)] [0,1] (.seq (.ops [mo 6 0,mo 7 1,ca 8 133 [.t 6,.t 7],oo 9 (.ext (.t 8) 0),oo 10 (.ext (.t 8) 1),mo 4 9,mo 5 10]) (.keep (kp [(4,0),(5,0)] [] 0) .ret))),[.t 4,.t 5]⟩
abbrev g20_S:=Sys.on [(133,g3_r)] []
def strings_CutPrefix (a_s:Str) (a_prefix:Str):Option (Str×Bool):=(internal_stringslite_CutPrefix a_s a_prefix).bind fun r1=>some (r1.1,r1.2)
@[simp] def g20_O:(Str×Bool)→TV×List Blk:=fun r=>((.tup [(.str r.1),(.bool r.2)]),[])
def g20_E (a:Str×Str):List TV:=[(.str a.1),(.str a.2)]
theorem g20_run (a_s:Str) (a_prefix:Str) :callFn (X g20_S) g20_tf (g20_E (a_s,a_prefix)) []=(strings_CutPrefix a_s a_prefix).map g20_O:=by
  rw [callFn_eq]
  simp (maxSteps:=2000000) (maxDischargeDepth:=8) -implicitDefEqProofs [g20_tf,strings_CutPrefix,g20_E] <;> (try simp only [map_to_bind,some_elim,g20_O])
def g20_r:Rule:=RlO g20_E (fun a=>strings_CutPrefix a.1 a.2) g20_O
theorem g20_ok:RuleOk Tryd.prog 97 g20_r:=ok_rlo (S:=g20_S) (tf:=g20_tf) (SysOk.on ⟨g3_ok,trivial⟩ trivial) (trE_ok (ks:=[]) Tryd.func97 (by kernel_rfl)) fun a=>g20_run a.1 a.2
@[simp] theorem g20_app (y0 y1):g20_r [(.str y0),(.str y1)]=(strings_CutPrefix y0 y1).map g20_O :=
  RlO_app (enc:=g20_E) (by intro a b h;simp [g20_E,Prod.ext_iff] at h ⊢;simp [h]) (y0,y1)
/-! (*impl.scanner).accept -/
def g6_tf:TFn:=⟨(sq [mk 4 (kb false)] [0,1] (sq [mo 8 0,nk 9 8,fa 10 0 9,ld 11 10,mo 12 1,ca 13 97 [.t 11,.t 12],mo 7 13,oo 14 (.ext (.t 7) 0),oo 15 (.ext (.t 7) 1),mo 5 14,mo 6 15] [0,5,6] (sq [mo 16 0,mo 17 5,nk 18 16,fa 19 0 18,⟨none,none,(.store 1 (.t 19) (.t 17))⟩] [6] (.seq (.ops [mo 20 6,mo 4 20]) (.keep (kp [(4,0)] [(0,0)] 1) .ret))))),[.t 4]⟩
abbrev g6_S:=Sys.on [(97,g20_r)] []
def impl_scanner_accept_o0b (a1:Str×Bool) (a2:Str):Option ((Str×Bool)×Bool):=(strings_CutPrefix a1.1 a2).bind fun r1=>some ((r1.1,a1.2),r1.2)
@[simp] def g6_O:((Str×Bool)×Bool)→TV×List Blk:=fun r=>((.bool r.2),[(.live 2 [[(.str r.1.1),(.bool r.1.2)]])])
abbrev g6_T:=(Str×Bool)×Str
def g6_E (a:g6_T):List TV:=[(.ptr 0 0 0),(.str a.2)]
def g6_B (a:g6_T):List Blk:=[(.live 2 [[(.str a.1.1),(.bool a.1.2)]])]
theorem g6_run (a1:Str×Bool) (a2:Str) :callFn (X g6_S) g6_tf (g6_E (a1,a2)) (g6_B (a1,a2))=(impl_scanner_accept_o0b a1 a2).map g6_O:=by
  rw [callFn_eq]
  simp (maxSteps:=2000000) (maxDischargeDepth:=8) -implicitDefEqProofs [g6_tf,impl_scanner_accept_o0b,g6_E,g6_B] <;> (try simp only [map_to_bind,some_elim,g6_O])
def g6_r:MRule:=RmO g6_E g6_B (fun a=>impl_scanner_accept_o0b a.1 a.2) g6_O
theorem g6_ok:MRuleOk Tryd.prog 54 1 g6_r:=ok_rmo (S:=g6_S) (tf:=g6_tf) (SysOk.on ⟨g20_ok,trivial⟩ trivial) (trE_ok (ks:=[]) Tryd.func54 (by kernel_rfl)) (by rfl) (fun _=>by simp [g6_B]) (fun _=>by simp) fun a=>g6_run a.1 a.2
@[simp] theorem g6_app (y0 y1 y2):g6_r [(.ptr 0 0 0),(.str y2)] [(.live 2 [[(.str y0),(.bool y1)]])]=(impl_scanner_accept_o0b ((y0,y1)) y2).map g6_O:=by
  exact RmO_app (enc:=g6_E) (encB:=g6_B) (by intro a b h h2;simp [g6_E,g6_B,Prod.ext_iff] at h h2 ⊢;simp [h,h2]) ((y0,y1),y2)
/-! (*impl.scanner).number.1 -/
def g11_tf:TFn:=⟨(sq [mk 2 (kb false)] [0] (.seq (.after (.ops [mo 3 0,ca 4 129 [.t 3],mo 5 4,⟨(some 6),(some (5,false)),(.mv (.t 0))⟩,⟨(some 7),(some (5,false)),(.bin .num .eql (.t 6) (.c (.int .u8 45)))⟩,pk 8 (.t 5) (kb true) (.t 7),mo 2 8]) (kp [(2,0)] [] 0)) (.keep (kp [(2,0)] [] 0) .ret))),[.t 2]⟩
abbrev g11_S:=Sys.on [(129,g35_r)] []
def impl_scanner_number_c1 (a_c:Int):Option (Bool):=(impl_isDigit a_c).bind fun r1=>if r1=true then some true else some ((decide (a_c=45)))
@[simp] def g11_O:Bool→TV×List Blk:=fun r=>((.bool r),[])
def g11_E (a:Int):List TV:=[(.int .u8 a)]
theorem g11_run (a_c:Int) :callFn (X g11_S) g11_tf (g11_E a_c) []=(impl_scanner_number_c1 a_c).map g11_O:=by
  rw [callFn_eq]
  simp (maxSteps:=2000000) (maxDischargeDepth:=8) -implicitDefEqProofs [g11_tf,impl_scanner_number_c1,g11_E] <;> (try simp only [map_to_bind,some_elim,g11_O])
def g11_r:Rule:=RlO g11_E (fun a=>impl_scanner_number_c1 a) g11_O
theorem g11_ok:RuleOk Tryd.prog 128 g11_r:=ok_rlo (S:=g11_S) (tf:=g11_tf) (SysOk.on ⟨g35_ok,trivial⟩ trivial) (trE_ok (ks:=[]) Tryd.func128 (by kernel_rfl)) fun a=>g11_run a
@[simp] theorem g11_app (y0):g11_r [(.int .u8 y0)]=(impl_scanner_number_c1 y0).map g11_O :=
  RlO_app (enc:=g11_E) (by intro a b h;simp [g11_E,Prod.ext_iff] at h ⊢;simp [h]) y0
/-! (*impl.scanner).while -/
def g12l1_cb:TC:=(.seq (sq [mo 7 5,mo 8 0,nk 9 8,fa 10 0 9,ld 11 10,oo 12 (.len true (.t 11)),bn 13 .lss (.t 7) (.t 12),mo 14 13,⟨(some 15),(some (14,true)),(.mv (.t 1))⟩,⟨(some 16),(some (14,true)),(.mv (.t 0))⟩,⟨(some 17),(some (14,true)),(.nilchk (.t 16))⟩,⟨(some 18),(some (14,true)),(.faddr 0 (.t 17))⟩,⟨(some 19),(some (14,true)),(.load none (.t 18))⟩,⟨(some 20),(some (14,true)),(.mv (.t 5))⟩,⟨(some 21),(some (14,true)),(.index (.t 19) (.t 20))⟩,⟨(some 22),(some (14,true)),(.callv (.t 15) [.t 21])⟩,pk 23 (.t 14) (.t 22) (kb false)] [0,1,5,23] (.cond (.t 23) .skip (.keep (kp [(0,0),(5,0)] [(0,0)] 1) (.exit 0)))) (.trim [0,1,5] (.block 1 (.after (.ops [mo 24 5,bn 25 .add (.t 24) (ki 1),mo 5 25]) (kp [(0,0),(1,0),(5,0)] [(0,0)] 1)))))
def g12l1_c:TC:=.loop [0,1,5] g12l1_cb
def g12_tf:TFn:=⟨(sq [mk 4 (.c (.str []))] [0,1] (sq [mk 5 (ki 0)] [0,1,5] (.seq (.block 0 (.keep (kp [(0,0),(1,0),(5,0)] [(0,0)] 1) g12l1_c)) (.trim [0,5] (sq [mo 26 0,nk 27 26,fa 28 0 27,ld 29 28,mo 30 5,oo 31 (.sliceS (.t 29) none (some (.t 30))),mo 6 31] [0,5,6] (sq [mo 32 0,mo 33 0,nk 34 33,fa 35 0 34,ld 36 35,mo 37 5,oo 38 (.sliceS (.t 36) (some (.t 37)) none),nk 39 32,fa 40 0 39,⟨none,none,(.store 1 (.t 40) (.t 38))⟩] [6] (.seq (.ops [mo 41 6,mo 4 41]) (.keep (kp [(4,0)] [(0,0)] 1) .ret)))))))),[.t 4]⟩
abbrev g12_S:=Sys.on [(128,g11_r)] []
@[reducible,simp] def g12l1_F:((Str×Bool)×Int)→Out:=(fun t=>(.ext 0,[(0,(.ptr 0 0 0)),(5,(.int .i64 t.2))],[(.live 2 [[(.str t.1.1),(.bool t.1.2)]])]))
def impl_scanner_while_o53_l1_b (v1:Str×Bool) (v2:Int):Option ((Int) ⊕ ((Str×Bool)×Int)):=if v2 < (v1.1.length:Int) then if 0≤v2 then (v1.1[(v2).toNat]?).bind fun (b3:UInt8)=>(impl_scanner_number_c1 ((b3.toNat:Int))).bind fun r4=>if r4=true then some (.inl ((IntKind.i64.wrap (v2+1)))) else some (.inr (v1,v2)) else none else some (.inr (v1,v2))
theorem g12l1_b_eq  (v1:Str×Bool) (v2:Int):X g12_S g12l1_cb (keepEnv [0,1,5] [(0,(.ptr 0 0 0)),(1,(.fn 128 [] [])),(5,(.int .i64 v2))]) [(.live 2 [[(.str v1.1),(.bool v1.2)]])]=(impl_scanner_while_o53_l1_b v1 v2).map (Sum.elim (fun s=>(TX.nrm,[(0,(.ptr 0 0 0)),(1,(.fn 128 [] [])),(5,(.int .i64 s))],[(.live 2 [[(.str v1.1),(.bool v1.2)]])])) g12l1_F):=by
  simp (maxSteps:=2000000) (maxDischargeDepth:=8) -implicitDefEqProofs [g12l1_cb,impl_scanner_while_o53_l1_b] <;> (try simp only [map_to_bind,some_elim,g12l1_F])
def impl_scanner_while_o53_l1 (v1:Str×Bool) (s:Int):Option ((Str×Bool)×Int):=loopO (fun s=>impl_scanner_while_o53_l1_b v1 s) s
@[simp] theorem g12l1_eq (y0 y1 y2):X g12_S g12l1_c [(0,(.ptr 0 0 0)),(1,(.fn 128 [] [])),(5,(.int .i64 y2))] [(.live 2 [[(.str y0),(.bool y1)]])]=(impl_scanner_while_o53_l1 ((y0,y1)) y2).map g12l1_F:=by
  exact loop_X _ _ _ _ (by intro r;first | (simp;done) | (rcases r with r | r <;> simp;done) | (rcases r with r | r | r <;> simp;done) | (rcases r with r | r | r | r <;> simp)) (fun s=>g12l1_b_eq  ((y0,y1)) s) y2
def impl_scanner_while_o53 (a1:Str×Bool):Option ((Str×Bool)×Str):=(impl_scanner_while_o53_l1 a1 0).bind fun r5=>(subL r5.1.1 none (some r5.2)).bind fun s6=>(subL r5.1.1 (some r5.2) none).bind fun s7=>some ((s7,r5.1.2),s6)
@[simp] def g12_O:((Str×Bool)×Str)→TV×List Blk:=fun r=>((.str r.2),[(.live 2 [[(.str r.1.1),(.bool r.1.2)]])])
abbrev g12_T:=(Str×Bool)
def g12_E (a:g12_T):List TV:=[(.ptr 0 0 0),(.fn 128 [] [])]
def g12_B (a:g12_T):List Blk:=[(.live 2 [[(.str a.1),(.bool a.2)]])]
theorem g12_run (a1:Str×Bool) :callFn (X g12_S) g12_tf (g12_E a1) (g12_B a1)=(impl_scanner_while_o53 a1).map g12_O:=by
  rw [callFn_eq]
  simp (maxSteps:=2000000) (maxDischargeDepth:=8) -implicitDefEqProofs [g12_tf,impl_scanner_while_o53,g12_E,g12_B] <;> (try simp only [map_to_bind,some_elim,g12_O])
def g12_r:MRule:=RmO g12_E g12_B (fun a=>impl_scanner_while_o53 a) g12_O
theorem g12_ok:MRuleOk Tryd.prog 127 1 g12_r:=ok_rmo (S:=g12_S) (tf:=g12_tf) (SysOk.on ⟨g11_ok,trivial⟩ trivial) (trE_ok (ks:=[[0,1,5]]) Tryd.func127 (by kernel_rfl)) (by rfl) (fun _=>by simp [g12_B]) (fun _=>by simp) fun a=>g12_run a
@[simp] theorem g12_app (y0 y1):g12_r [(.ptr 0 0 0),(.fn 128 [] [])] [(.live 2 [[(.str y0),(.bool y1)]])]=(impl_scanner_while_o53 ((y0,y1))).map g12_O:=by
  exact RmO_app (enc:=g12_E) (encB:=g12_B) (by intro a b h h2;simp [g12_E,g12_B,Prod.ext_iff] at h h2 ⊢;simp [h,h2]) ((y0,y1))
/-! impl.readDecimal -/
noncomputable def impl_readDecimal (s:Str):Option (Int×Bool):=rdecS s
noncomputable def impl_readDecimal_r:Rule:=rdec_r
@[simp] theorem impl_readDecimal_app (y0):impl_readDecimal_r [.str y0]=(impl_readDecimal y0).map (fun r=>(.tup [.int .i64 r.1,.bool r.2],[])):=rdecS_app y0
/-! (*impl.scanner).number -/
def g7_tf:TFn:=⟨(sq [mk 2 (ki 0)] [0] (sq [mo 6 0,oo 7 (.callM 127 1 [0] [.t 6,(.c (.fn 128 [] []))]),ca 8 63 [.t 7],mo 5 8,oo 9 (.ext (.t 5) 0),oo 10 (.ext (.t 5) 1),mo 3 9,mo 4 10] [0,3,4] (.seq (sq [mo 11 4,nt 12 11] [0,3,12] (.cond (.t 12) (.after (.ops [mo 13 0,nk 14 13,fa 15 1 14,⟨none,none,(.store 1 (.t 15) (kb true))⟩]) (kp [(3,0)] [(0,0)] 1)) (.keep (kp [(3,0)] [(0,0)] 1) .skip))) (.trim [3] (.seq (.ops [mo 16 3,mo 2 16]) (.keep (kp [(2,0)] [(0,0)] 1) .ret)))))),[.t 2]⟩
abbrev g7_S:=Sys.on [(63,impl_readDecimal_r)] [((127,1),(1,g12_r))]
def impl_scanner_number_od0 (a1:Str×Bool):Option ((Str×Bool)×Int):=(impl_scanner_while_o53 a1).bind fun r1=>(impl_readDecimal r1.2).bind fun r2=>if ¬(r2.2=true) then some ((r1.1.1,true),r2.1) else some (r1.1,r2.1)
@[simp] def g7_O:((Str×Bool)×Int)→TV×List Blk:=fun r=>((.int .i64 r.2),[(.live 2 [[(.str r.1.1),(.bool r.1.2)]])])
abbrev g7_T:=(Str×Bool)
def g7_E (a:g7_T):List TV:=[(.ptr 0 0 0)]
def g7_B (a:g7_T):List Blk:=[(.live 2 [[(.str a.1),(.bool a.2)]])]
theorem g7_run (a1:Str×Bool) :callFn (X g7_S) g7_tf (g7_E a1) (g7_B a1)=(impl_scanner_number_od0 a1).map g7_O:=by
  rw [callFn_eq]
  simp (maxSteps:=2000000) (maxDischargeDepth:=8) -implicitDefEqProofs [g7_tf,impl_scanner_number_od0,g7_E,g7_B] <;> (try simp only [map_to_bind,some_elim,g7_O])
def g7_r:MRule:=RmO g7_E g7_B (fun a=>impl_scanner_number_od0 a) g7_O
theorem g7_ok:MRuleOk Tryd.prog 89 1 g7_r:=ok_rmo (S:=g7_S) (tf:=g7_tf) (SysOk.on ⟨impl_readDecimal_ok,trivial⟩ ⟨g12_ok,trivial⟩) (trE_ok (ks:=[]) Tryd.func89 (by kernel_rfl)) (by rfl) (fun _=>by simp [g7_B]) (fun _=>by simp) fun a=>g7_run a
@[simp] theorem g7_app (y0 y1):g7_r [(.ptr 0 0 0)] [(.live 2 [[(.str y0),(.bool y1)]])]=(impl_scanner_number_od0 ((y0,y1))).map g7_O:=by
  exact RmO_app (enc:=g7_E) (encB:=g7_B) (by intro a b h h2;simp [g7_E,g7_B,Prod.ext_iff] at h h2 ⊢;simp [h,h2]) ((y0,y1))
/-! (*impl.scanner).expect -/
def g8_tf:TFn:=⟨(sq [mo 4 0,mo 5 1,oo 6 (.callM 54 0 [0] [.t 4,.t 5]),nt 7 6] [0,7] (.cond (.t 7) (.after (.ops [mo 8 0,nk 9 8,fa 10 1 9,⟨none,none,(.store 1 (.t 10) (kb true))⟩]) (kp [] [(0,0)] 1)) (.keep (kp [] [(0,0)] 1) .skip))),[]⟩
abbrev g8_S:=Sys.on [] [((54,0),(1,g6_r))]
def impl_scanner_expect_o0b (a1:Str×Bool) (a2:Str):Option ((Str×Bool)):=(impl_scanner_accept_o0b a1 a2).bind fun r1=>if ¬(r1.2=true) then some ((r1.1.1,true)) else some r1.1
@[simp] def g8_O:((Str×Bool))→TV×List Blk:=fun r=>((.tup []),[(.live 2 [[(.str r.1),(.bool r.2)]])])
abbrev g8_T:=(Str×Bool)×Str
def g8_E (a:g8_T):List TV:=[(.ptr 0 0 0),(.str a.2)]
def g8_B (a:g8_T):List Blk:=[(.live 2 [[(.str a.1.1),(.bool a.1.2)]])]
theorem g8_run (a1:Str×Bool) (a2:Str) :callFn (X g8_S) g8_tf (g8_E (a1,a2)) (g8_B (a1,a2))=(impl_scanner_expect_o0b a1 a2).map g8_O:=by
  rw [callFn_eq]
  simp (maxSteps:=2000000) (maxDischargeDepth:=8) -implicitDefEqProofs [g8_tf,impl_scanner_expect_o0b,g8_E,g8_B] <;> (try simp only [map_to_bind,some_elim,g8_O])
def g8_r:MRule:=RmO g8_E g8_B (fun a=>impl_scanner_expect_o0b a.1 a.2) g8_O
theorem g8_ok:MRuleOk Tryd.prog 88 1 g8_r:=ok_rmo (S:=g8_S) (tf:=g8_tf) (SysOk.on trivial ⟨g6_ok,trivial⟩) (trE_ok (ks:=[]) Tryd.func88 (by kernel_rfl)) (by rfl) (fun _=>by simp [g8_B]) (fun _=>by simp) fun a=>g8_run a.1 a.2
@[simp] theorem g8_app (y0 y1 y2):g8_r [(.ptr 0 0 0),(.str y2)] [(.live 2 [[(.str y0),(.bool y1)]])]=(impl_scanner_expect_o0b ((y0,y1)) y2).map g8_O:=by
  exact RmO_app (enc:=g8_E) (encB:=g8_B) (by intro a b h h2;simp [g8_E,g8_B,Prod.ext_iff] at h h2 ⊢;simp [h,h2]) ((y0,y1),y2)
/-! (*impl.scanner).filter -/
def g9p1_c:TC:=(sq [mo 19 0,oo 20 (.callM 54 0 [0] [.t 19,(.c (.str [63]))]),fa 21 2 3,⟨none,none,(.store 1 (.t 21) (.t 20))⟩] [2,3] (.seq (.ops [ln 22 3 3,⟨none,none,(.store 3 (.t 2) (.t 22))⟩]) (.keep (kp [(2,0)] [(0,0),(1,0)] 1) .ret)))
def g9_tf:TFn:=⟨(sq [oo 2 (.alloc [(.int .i64 0),(.int .i64 0),(.bool false)])] [0,2] (sq [oo 3 (.alloc [(.int .i64 0),(.int .i64 0),(.bool false)])] [0,2,3] (sq [oo 5 (.bslice [(.str [])] 6 [(0,(.c (.str []))),(1,(.c (.str [115,104,117,102,102,108,101]))),(2,(.c (.str [100,101,108,116,97]))),(3,(.c (.str [114,117,110]))),(4,(.c (.str [108,122]))),(5,(.c (.str [115,117,109])))]),mo 4 5] [0,2,3,4] (sq [mo 6 4,mo 7 0,oo 8 (.callM 96 0 [0] [.t 7]),ca 9 95 [.t 6,.t 8],oo 10 (.mm true (ki 0) (.t 9)),fa 11 0 3,⟨none,none,(.store 1 (.t 11) (.t 10))⟩] [0,2,3] (.seq (sq [mo 12 0,oo 13 (.callM 54 0 [0] [.t 12,(.c (.str [40]))])] [0,2,3,13] (.cond (.t 13) (sq [mo 14 0,oo 15 (.callM 89 0 [0] [.t 14]),fa 16 1 3,⟨none,none,(.store 1 (.t 16) (.t 15))⟩] [0,2,3] (.after (.ops [mo 17 0,oo 18 (.callM 88 0 [0] [.t 17,(.c (.str [41]))])]) (kp [(0,0),(2,0),(3,0)] [(0,0),(1,0),(2,0)] 1))) (.keep (kp [(0,0),(2,0),(3,0)] [(0,0),(1,0),(2,0)] 1) .skip))) (.trim [0,2,3] g9p1_c)))))),[.cell 2 (some 3)]⟩
abbrev g9_S:=Sys.on [(95,g4_r)] [((96,0),(1,g13_r)),((54,0),(1,g6_r)),((89,0),(1,g7_r)),((88,0),(1,g8_r))]
@[reducible,simp] def g9p1_F:((Str×Bool)×(Int×Int×Bool))→Out:=(fun t=>(.ret,[(2,(.ptr 1 0 0))],[(.live 2 [[(.str t.1.1),(.bool t.1.2)]]),(.live 3 [[(.int .i64 t.2.1),(.int .i64 t.2.2.1),(.bool t.2.2.2)]])]))
def impl_scanner_filter_od0_p1 (v6:Str×Bool) (v7:Int×Int×Bool) (v8:Int×Int×Bool):Option ((Str×Bool)×(Int×Int×Bool)):=(impl_scanner_accept_o0b v6 (([63]:Str))).bind fun r9=>some ((r9.1,(v8.1,v8.2.1,r9.2)))
@[simp] theorem g9p1_eq (y0 y1 y2 y3 y4 y5 y6 y7):X g9_S g9p1_c [(0,(.ptr 0 0 0)),(2,(.ptr 1 0 0)),(3,(.ptr 2 0 0))] [(.live 2 [[(.str y0),(.bool y1)]]),(.live 3 [[(.int .i64 y2),(.int .i64 y3),(.bool y4)]]),(.live 3 [[(.int .i64 y5),(.int .i64 y6),(.bool y7)]])]=(impl_scanner_filter_od0_p1 ((y0,y1)) ((y2,y3,y4)) ((y5,y6,y7))).map g9p1_F:=by
  simp (maxSteps:=2000000) (maxDischargeDepth:=8) -implicitDefEqProofs [g9p1_c,impl_scanner_filter_od0_p1,bslV_lit (α:=Str) (zs:=[(.str [])])] <;> (try simp only [map_to_bind,some_elim,g9p1_F])
def impl_scanner_filter_od0 (a1:Str×Bool):Option ((Str×Bool)×(Int×Int×Bool)):=(impl_scanner_word_od0 a1).bind fun r1=>(slices_Index_string_string_ ((lit [([]:Str),([115,104,117,102,102,108,101]:Str),([100,101,108,116,97]:Str),([114,117,110]:Str),([108,122]:Str),([115,117,109]:Str)]:List Str)) r1.2).bind fun r2=>(impl_scanner_accept_o0b r1.1 (([40]:Str))).bind fun r3=>if r3.2=true then (impl_scanner_number_od0 r3.1).bind fun r4=>(impl_scanner_expect_o0b r4.1 (([41]:Str))).bind fun r5=>(impl_scanner_filter_od0_p1 r5 ((0,0,false)) (((max 0 r2),r4.2,false))).bind fun r10=>some (r10.1,r10.2) else (impl_scanner_filter_od0_p1 r3.1 ((0,0,false)) (((max 0 r2),0,false))).bind fun r11=>some (r11.1,r11.2)
@[simp] def g9_O:((Str×Bool)×(Int×Int×Bool))→TV×List Blk:=fun r=>((.agg [(.int .i64 r.2.1),(.int .i64 r.2.2.1),(.bool r.2.2.2)]),[(.live 2 [[(.str r.1.1),(.bool r.1.2)]]),(.live 3 [[(.int .i64 r.2.1),(.int .i64 r.2.2.1),(.bool r.2.2.2)]])])
abbrev g9_T:=(Str×Bool)
def g9_E (a:g9_T):List TV:=[(.ptr 0 0 0)]
def g9_B (a:g9_T):List Blk:=[(.live 2 [[(.str a.1),(.bool a.2)]])]
theorem g9_run (a1:Str×Bool) :callFn (X g9_S) g9_tf (g9_E a1) (g9_B a1)=(impl_scanner_filter_od0 a1).map g9_O:=by
  rw [callFn_eq]
  simp (maxSteps:=2000000) (maxDischargeDepth:=8) -implicitDefEqProofs [g9_tf,impl_scanner_filter_od0,g9_E,g9_B,bslV_lit (α:=Str) (zs:=[(.str [])])] <;> (try simp only [map_to_bind,some_elim,g9_O])
def g9_r:MRule:=RmO g9_E g9_B (fun a=>impl_scanner_filter_od0 a) g9_O
theorem g9_ok:MRuleOk Tryd.prog 53 1 g9_r:=ok_rmo (S:=g9_S) (tf:=g9_tf) (SysOk.on ⟨g4_ok,trivial⟩ ⟨g13_ok,g6_ok,g7_ok,g8_ok,trivial⟩) (trE_ok (ks:=[]) Tryd.func53 (by kernel_rfl)) (by rfl) (fun _=>by simp [g9_B]) (fun _=>by simp) fun a=>g9_run a
@[simp] theorem g9_app (y0 y1):g9_r [(.ptr 0 0 0)] [(.live 2 [[(.str y0),(.bool y1)]])]=(impl_scanner_filter_od0 ((y0,y1))).map g9_O:=by
  exact RmO_app (enc:=g9_E) (encB:=g9_B) (by intro a b h h2;simp [g9_E,g9_B,Prod.ext_iff] at h h2 ⊢;simp [h,h2]) ((y0,y1))
/-! impl.within -/
def g39_tf:TFn:=⟨(sq [mk 6 (kb false)] [0,1,2] (.seq (.after (.ops [mo 7 0,mo 8 1,bn 9 .geq (.t 7) (.t 8),mo 10 9,⟨(some 11),(some (10,true)),(.mv (.t 0))⟩,⟨(some 12),(some (10,true)),(.mv (.t 2))⟩,⟨(some 13),(some (10,true)),(.bin .num .leq (.t 11) (.t 12))⟩,pk 14 (.t 10) (.t 13) (kb false),mo 6 14]) (kp [(6,0)] [] 0)) (.keep (kp [(6,0)] [] 0) .ret))),[.t 6]⟩
abbrev g39_S:=Sys.on [] []
def impl_within (a_n:Int) (a_low:Int) (a_high:Int):Option (Bool):=if a_n ≥ a_low then some ((decide (a_n≤a_high))) else some false
@[simp] def g39_O:Bool→TV×List Blk:=fun r=>((.bool r),[])
def g39_E (a:Int×Int×Int):List TV:=[(.int .i64 a.1),(.int .i64 a.2.1),(.int .i64 a.2.2)]
theorem g39_run (a_n:Int) (a_low:Int) (a_high:Int) :callFn (X g39_S) g39_tf (g39_E (a_n,a_low,a_high)) []=(impl_within a_n a_low a_high).map g39_O:=by
  rw [callFn_eq]
  simp (maxSteps:=2000000) (maxDischargeDepth:=8) -implicitDefEqProofs [g39_tf,impl_within,g39_E] <;> (try simp only [map_to_bind,some_elim,g39_O])
def g39_r:Rule:=RlO g39_E (fun a=>impl_within a.1 a.2.1 a.2.2) g39_O
theorem g39_ok:RuleOk Tryd.prog 91 g39_r:=ok_rlo (S:=g39_S) (tf:=g39_tf) (SysOk.on trivial trivial) (trE_ok (ks:=[]) Tryd.func91 (by kernel_rfl)) fun a=>g39_run a.1 a.2.1 a.2.2
@[simp] theorem g39_app (y0 y1 y2):g39_r [(.int .i64 y0),(.int .i64 y1),(.int .i64 y2)]=(impl_within y0 y1 y2).map g39_O :=
  RlO_app (enc:=g39_E) (by intro a b h;simp [g39_E,Prod.ext_iff] at h ⊢;simp [h]) (y0,y1,y2)
/-! impl.isWidth -/
def g36_tf:TFn:=⟨(sq [mk 2 (kb false)] [0] (.seq (.after (.ops [mo 3 0,bn 4 .eql (.t 3) (ki 1),mo 5 4,⟨(some 6),(some (5,false)),(.mv (.t 0))⟩,⟨(some 7),(some (5,false)),(.bin .num .eql (.t 6) (ki 2))⟩,pk 8 (.t 5) (kb true) (.t 7),mo 9 8,⟨(some 10),(some (9,false)),(.mv (.t 0))⟩,⟨(some 11),(some (9,false)),(.bin .num .eql (.t 10) (ki 4))⟩,pk 12 (.t 9) (kb true) (.t 11),mo 2 12]) (kp [(2,0)] [] 0)) (.keep (kp [(2,0)] [] 0) .ret))),[.t 2]⟩
abbrev g36_S:=Sys.on [] []
def impl_isWidth (a_width:Int):Option (Bool):=if a_width=1 then some true else if a_width=2 then some true else some ((decide (a_width=4)))
@[simp] def g36_O:Bool→TV×List Blk:=fun r=>((.bool r),[])
def g36_E (a:Int):List TV:=[(.int .i64 a)]
theorem g36_run (a_width:Int) :callFn (X g36_S) g36_tf (g36_E a_width) []=(impl_isWidth a_width).map g36_O:=by
  rw [callFn_eq]
  simp (maxSteps:=2000000) (maxDischargeDepth:=8) -implicitDefEqProofs [g36_tf,impl_isWidth,g36_E] <;> (try simp only [map_to_bind,some_elim,g36_O])
def g36_r:Rule:=RlO g36_E (fun a=>impl_isWidth a) g36_O
theorem g36_ok:RuleOk Tryd.prog 135 g36_r:=ok_rlo (S:=g36_S) (tf:=g36_tf) (SysOk.on trivial trivial) (trE_ok (ks:=[]) Tryd.func135 (by kernel_rfl)) fun a=>g36_run a
@[simp] theorem g36_app (y0):g36_r [(.int .i64 y0)]=(impl_isWidth y0).map g36_O :=
  RlO_app (enc:=g36_E) (by intro a b h;simp [g36_E,Prod.ext_iff] at h ⊢;simp [h]) y0
/-! impl.ValidFilter -/
def g25p1_c:TC:=(.cond (.t 25) (.seq (.ops [fa 28 1 1,ld 29 28,bn 30 .eql (.t 29) (ki 0),mo 2 30]) (.keep (kp [(2,0)] [] 0) .ret)) (.keep (kp [(1,0)] [(0,0)] 0) .skip))
def g25p2_c:TC:=(.seq (.after (.ops [fa 31 0 1,ld 32 31,bn 33 .eql (.t 32) (ki 5),mo 34 33,⟨(some 35),(some (34,true)),(.faddr 1 (.t 1))⟩,⟨(some 36),(some (34,true)),(.load none (.t 35))⟩,⟨(some 37),(some (34,true)),(.bin .num .eql (.t 36) (ki 0))⟩,pk 38 (.t 34) (.t 37) (kb false),mo 39 38,⟨(some 40),(some (39,true)),(.faddr 2 (.t 1))⟩,⟨(some 41),(some (39,true)),(.load none (.t 40))⟩,⟨(some 42),(some (39,true)),(.un .not (.t 41))⟩,pk 43 (.t 39) (.t 42) (kb false),mo 2 43]) (kp [(2,0)] [] 0)) (.keep (kp [(2,0)] [] 0) .ret))
def g25_tf:TFn:=⟨(sq [bx 1 0,mk 2 (kb false)] [1] (.seq (sq [fa 3 0 1,ld 4 3] [1,4] (.block 0 (sq [bn 6 .eql (.t 4) (ki 1),mo 5 6] [1,4,5] (.cond (.t 5) (.seq (.after (.ops [fa 7 1 1,ld 8 7,ca 9 91 [.t 8,ki 1,ki 24],mo 10 9,⟨(some 11),(some (10,true)),(.faddr 2 (.t 1))⟩,⟨(some 12),(some (10,true)),(.load none (.t 11))⟩,⟨(some 13),(some (10,true)),(.un .not (.t 12))⟩,pk 14 (.t 10) (.t 13) (kb false),mo 2 14]) (kp [(2,0)] [] 0)) (.keep (kp [(2,0)] [] 0) .ret)) (sq [bn 16 .eql (.t 4) (ki 2),mo 15 16] [1,4,15] (.cond (.t 15) (.seq (.after (.ops [fa 17 1 1,ld 18 17,ca 19 135 [.t 18],mo 20 19,⟨(some 21),(some (20,true)),(.faddr 2 (.t 1))⟩,⟨(some 22),(some (20,true)),(.load none (.t 21))⟩,⟨(some 23),(some (20,true)),(.un .not (.t 22))⟩,pk 24 (.t 20) (.t 23) (kb false),mo 2 24]) (kp [(2,0)] [] 0)) (.keep (kp [(2,0)] [] 0) .ret)) (.seq (sq [bn 26 .eql (.t 4) (ki 3),mo 25 26] [1,4,25] (.cond (.t 25) (.keep (kp [(1,0),(25,0)] [(0,0)] 0) .skip) (.after (.ops [bn 27 .eql (.t 4) (ki 4),mo 25 27]) (kp [(1,0),(25,0)] [(0,0)] 0)))) (.trim [1,25] g25p1_c)))))))) (.trim [1] g25p2_c))),[.t 2]⟩
abbrev g25_S:=Sys.on [(91,g39_r),(135,g36_r)] []
@[reducible,simp] def g25p1_F:((Bool) ⊕ ((Int×Int×Bool)))→Out:=(Sum.elim (fun t=>(.ret,[(2,(.bool t))],[])) (fun t=>(.nrm,[(1,(.ptr 0 0 0))],[(.live 3 [[(.int .i64 t.1),(.int .i64 t.2.1),(.bool t.2.2)]])])))
def impl_ValidFilter_p1 (v3:Int×Int×Bool) (v4:Bool):Option ((Bool) ⊕ ((Int×Int×Bool))):=if v4=true then some ((.inl ((decide (v3.2.1=0))))) else some ((.inr v3))
@[simp] theorem g25p1_eq (y0 y1 y2 y3):X g25_S g25p1_c [(1,(.ptr 0 0 0)),(25,(.bool y3))] [(.live 3 [[(.int .i64 y0),(.int .i64 y1),(.bool y2)]])]=(impl_ValidFilter_p1 ((y0,y1,y2)) y3).map g25p1_F:=by
  simp (maxSteps:=2000000) (maxDischargeDepth:=8) -implicitDefEqProofs [g25p1_c,impl_ValidFilter_p1] <;> (try simp only [map_to_bind,some_elim,g25p1_F])
@[reducible,simp] def g25p2_F:Bool→Out:=(fun t=>(.ret,[(2,(.bool t))],[]))
def impl_ValidFilter_p2 (v11:Int×Int×Bool):Option (Bool):=if v11.1=5 then if v11.2.1=0 then some (((!v11.2.2))) else some false else some false
@[simp] theorem g25p2_eq (y0 y1 y2):X g25_S g25p2_c [(1,(.ptr 0 0 0))] [(.live 3 [[(.int .i64 y0),(.int .i64 y1),(.bool y2)]])]=(impl_ValidFilter_p2 ((y0,y1,y2))).map g25p2_F:=by
  simp (maxSteps:=2000000) (maxDischargeDepth:=8) -implicitDefEqProofs [g25p2_c,impl_ValidFilter_p2] <;> (try simp only [map_to_bind,some_elim,g25p2_F])
def impl_ValidFilter (a_f:Int×Int×Bool):Option (Bool):=if a_f.1=1 then (impl_within a_f.2.1 1 24).bind fun r1=>if r1=true then some ((!a_f.2.2)) else some false else if a_f.1=2 then (impl_isWidth a_f.2.1).bind fun r2=>if r2=true then some ((!a_f.2.2)) else some false else if a_f.1=3 then (impl_ValidFilter_p1 a_f ((decide (a_f.1=3)))).bind fun r5=>Sum.elim (fun u6=>some u6) (fun u7=>(impl_ValidFilter_p2 u7).bind fun r12=>some r12) r5 else (impl_ValidFilter_p1 a_f ((decide (a_f.1=4)))).bind fun r8=>Sum.elim (fun u9=>some u9) (fun u10=>(impl_ValidFilter_p2 u10).bind fun r13=>some r13) r8
@[simp] def g25_O:Bool→TV×List Blk:=fun r=>((.bool r),[])
def g25_E (a:(Int×Int×Bool)):List TV:=[(.agg [(.int .i64 a.1),(.int .i64 a.2.1),(.bool a.2.2)])]
theorem g25_run (a_f:Int×Int×Bool) :callFn (X g25_S) g25_tf (g25_E a_f) []=(impl_ValidFilter a_f).map g25_O:=by
  rw [callFn_eq]
  simp (maxSteps:=2000000) (maxDischargeDepth:=8) -implicitDefEqProofs [g25_tf,impl_ValidFilter,g25_E] <;> (try simp only [map_to_bind,some_elim,g25_O])
def g25_r:Rule:=RlO g25_E (fun a=>impl_ValidFilter a) g25_O
theorem g25_ok:RuleOk Tryd.prog 100 g25_r:=ok_rlo (S:=g25_S) (tf:=g25_tf) (SysOk.on ⟨g39_ok,g36_ok,trivial⟩ trivial) (trE_ok (ks:=[]) Tryd.func100 (by kernel_rfl)) fun a=>g25_run a
@[simp] theorem g25_app (y0 y1 y2):g25_r [(.agg [(.int .i64 y0),(.int .i64 y1),(.bool y2)])]=(impl_ValidFilter ((y0,y1,y2))).map g25_O :=
  RlO_app (enc:=g25_E) (by intro a b h;simp [g25_E,Prod.ext_iff] at h ⊢;simp [h]) ((y0,y1,y2))
/-! impl.ValidPipeline.1 -/
def g14_tf:TFn:=⟨(sq [bx 1 0,mk 2 (kb false)] [1] (.seq (.ops [ln 3 3 1,ca 4 100 [.t 3],nt 5 4,mo 2 5]) (.keep (kp [(2,0)] [] 0) .ret))),[.t 2]⟩
abbrev g14_S:=Sys.on [(100,g25_r)] []
def impl_ValidPipeline_c1 (a_f:Int×Int×Bool):Option (Bool):=(impl_ValidFilter a_f).bind fun r1=>some ((!r1))
@[simp] def g14_O:Bool→TV×List Blk:=fun r=>((.bool r),[])
def g14_E (a:(Int×Int×Bool)):List TV:=[(.agg [(.int .i64 a.1),(.int .i64 a.2.1),(.bool a.2.2)])]
theorem g14_run (a_f:Int×Int×Bool) :callFn (X g14_S) g14_tf (g14_E a_f) []=(impl_ValidPipeline_c1 a_f).map g14_O:=by
  rw [callFn_eq]
  simp (maxSteps:=2000000) (maxDischargeDepth:=8) -implicitDefEqProofs [g14_tf,impl_ValidPipeline_c1,g14_E] <;> (try simp only [map_to_bind,some_elim,g14_O])
def g14_r:Rule:=RlO g14_E (fun a=>impl_ValidPipeline_c1 a) g14_O
theorem g14_ok:RuleOk Tryd.prog 99 g14_r:=ok_rlo (S:=g14_S) (tf:=g14_tf) (SysOk.on ⟨g25_ok,trivial⟩ trivial) (trE_ok (ks:=[]) Tryd.func99 (by kernel_rfl)) fun a=>g14_run a
@[simp] theorem g14_app (y0 y1 y2):g14_r [(.agg [(.int .i64 y0),(.int .i64 y1),(.bool y2)])]=(impl_ValidPipeline_c1 ((y0,y1,y2))).map g14_O :=
  RlO_app (enc:=g14_E) (by intro a b h;simp [g14_E,Prod.ext_iff] at h ⊢;simp [h]) ((y0,y1,y2))
/-! slices.IndexFunc[[]impl.Filter,impl.Filter] -/
def g1l1_cb:TC:=(sq [bn 9 .lss (.t 8) (.t 7)] [0,1,7,8,9] (.seq (.cond (.t 9) .skip (.keep (kp [] [] 0) (.exit 0))) (.trim [0,1,7,8] (.seq (.block 1 (sq [mo 10 8,mo 5 10] [0,1,5,7,8] (sq [mo 11 1,mo 12 0,mo 13 5,ia 14 3 12 13,ln 15 3 14,oo 16 (.callv (.t 11) [.t 15])] [0,1,5,7,8,16] (.cond (.t 16) (.seq (.ops [mo 17 5,mo 4 17]) (.keep (kp [(4,0)] [] 0) .ret)) .skip)))) (.trim [0,1,7,8] (.after (.ops [bn 18 .add (.t 8) (ki 1),mo 8 18]) (kp [(0,0),(1,0),(7,0),(8,0)] [] 0)))))))
def g1l1_c:TC:=.loop [0,1,7,8] g1l1_cb
def g1_tf:TFn:=⟨(sq [mk 4 (ki 0)] [0,1] (.seq (sq [mo 6 0,le 7 6,mk 8 (ki 0)] [0,1,7,8] (.block 0 (.keep (kp [(0,0),(1,0),(7,0),(8,0)] [] 0) g1l1_c))) (.trim [] (.seq (.ops [mk 4 (ki (-1))]) (.keep (kp [(4,0)] [] 0) .ret))))),[.t 4]⟩
abbrev g1_S:=Sys.on [(99,g14_r)] []
@[reducible,simp] def g1l1_F:((Unit) ⊕ (Int))→Out:=(Sum.elim (fun t=>(.ext 0,[],[])) (fun t=>(.ret,[(4,(.int .i64 t))],[])))
def slices_IndexFunc_impl_Filter_impl_Filter__ValidPipeline_c1_l1_b (v1:List (Int×Int×Bool)) (v2:Int) (v3:Int):Option ((Int) ⊕ ((Unit) ⊕ (Int))):=if v3 < v2 then if 0≤v3 then (v1[(v3).toNat]?).bind fun x4=>(impl_ValidPipeline_c1 x4).bind fun r5=>if r5=true then some (.inr (.inr v3)) else some (.inl ((IntKind.i64.wrap (v3+1)))) else none else some (.inr (.inl ()))
theorem g1l1_b_eq  (v1:List (Int×Int×Bool)) (v2:Int) (v3:Int):X g1_S g1l1_cb (keepEnv [0,1,7,8] [(0,(.vs (rows v1))),(1,(.fn 99 [] [])),(7,(.int .i64 v2)),(8,(.int .i64 v3))]) []=(slices_IndexFunc_impl_Filter_impl_Filter__ValidPipeline_c1_l1_b v1 v2 v3).map (Sum.elim (fun s=>(TX.nrm,[(0,(.vs (rows v1))),(1,(.fn 99 [] [])),(7,(.int .i64 v2)),(8,(.int .i64 s))],[])) g1l1_F):=by
  simp (maxSteps:=2000000) (maxDischargeDepth:=8) -implicitDefEqProofs [g1l1_cb,slices_IndexFunc_impl_Filter_impl_Filter__ValidPipeline_c1_l1_b] <;> (try simp only [map_to_bind,some_elim,g1l1_F])
def slices_IndexFunc_impl_Filter_impl_Filter__ValidPipeline_c1_l1 (v1:List (Int×Int×Bool)) (v2:Int) (s:Int):Option ((Unit) ⊕ (Int)):=loopO (fun s=>slices_IndexFunc_impl_Filter_impl_Filter__ValidPipeline_c1_l1_b v1 v2 s) s
@[simp] theorem g1l1_eq (y0 y1 y2):X g1_S g1l1_c [(0,(.vs (rows y0))),(1,(.fn 99 [] [])),(7,(.int .i64 y1)),(8,(.int .i64 y2))] []=(slices_IndexFunc_impl_Filter_impl_Filter__ValidPipeline_c1_l1 y0 y1 y2).map g1l1_F:=by
  exact loop_X _ _ _ _ (by intro r;first | (simp;done) | (rcases r with r | r <;> simp;done) | (rcases r with r | r | r <;> simp;done) | (rcases r with r | r | r | r <;> simp)) (fun s=>g1l1_b_eq  y0 y1 s) y2
def slices_IndexFunc_impl_Filter_impl_Filter__ValidPipeline_c1 (a_s:List (Int×Int×Bool)):Option (Int):=(slices_IndexFunc_impl_Filter_impl_Filter__ValidPipeline_c1_l1 a_s ((a_s.length:Int)) 0).bind fun r6=>Sum.elim (fun u7=>some ((-1))) (fun u8=>some u8) r6
@[simp] def g1_O:Int→TV×List Blk:=fun r=>((.int .i64 r),[])
def g1_E (a:(List (Int×Int×Bool))):List TV:=[(.vs (rows a)),(.fn 99 [] [])]
theorem g1_run (a_s:List (Int×Int×Bool)) :callFn (X g1_S) g1_tf (g1_E a_s) []=(slices_IndexFunc_impl_Filter_impl_Filter__ValidPipeline_c1 a_s).map g1_O:=by
  rw [callFn_eq]
  simp (maxSteps:=2000000) (maxDischargeDepth:=8) -implicitDefEqProofs [g1_tf,slices_IndexFunc_impl_Filter_impl_Filter__ValidPipeline_c1,g1_E] <;> (try simp only [map_to_bind,some_elim,g1_O])
def g1_r:Rule:=RlO g1_E (fun a=>slices_IndexFunc_impl_Filter_impl_Filter__ValidPipeline_c1 a) g1_O
theorem g1_ok:RuleOk Tryd.prog 134 g1_r:=ok_rlo (S:=g1_S) (tf:=g1_tf) (SysOk.on ⟨g14_ok,trivial⟩ trivial) (trE_ok (ks:=[[0,1,7,8]]) Tryd.func134 (by kernel_rfl)) fun a=>g1_run a
@[simp] theorem g1_app (y0):g1_r [(.vs (rows y0)),(.fn 99 [] [])]=(slices_IndexFunc_impl_Filter_impl_Filter__ValidPipeline_c1 y0).map g1_O :=
  RlO_app (enc:=g1_E) (by intro a b h;simp [g1_E,Prod.ext_iff] at h ⊢;simp [h]) y0
end
end Go.Proofs.TM
