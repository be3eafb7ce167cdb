/- Functions of the program, as functions of their data: written by program. -/
import Derived.Test.YtlajjnljeebkkaaDoorRS0
namespace Go.Proofs.TM
open Go Go.Proofs
set_option linter.unusedVariables false
set_option linter.unusedSimpArgs false
set_option maxHeartbeats 1000000
attribute [-simp] Option.map_bind strV_some
attribute [simp] guardOn_bool sA_bslice Function.comp_def
noncomputable section
/-! internal/stringslite.CutPrefix -/
def g3_tf:TFn:=⟨(sq [mk 4 (.c (.str [])),mk 5 (kb false)] [0,1] (.seq (sq [mo 6 0,mo 7 1,ca 8 149 [.t 6,.t 7],nt 9 8] [0,1,9] (.cond (.t 9) (.seq (.ops [mo 10 0,mo 4 10,mk 5 (kb false)]) (.keep (kp [(4,0),(5,0)] [] 0) .ret)) .skip)) (.trim [0,1] (.seq (.ops [mo 11 0,mo 12 1,oo 13 (.len true (.t 12)),oo 14 (.sliceS (.t 11) (some (.t 13)) none),mo 4 14,mk 5 (kb true)]) (.keep (kp [(4,0),(5,0)] [] 0) .ret))))),[.t 4,.t 5]⟩
abbrev g3_S:=Sys.on [(149,g2_r)] []
def internal_stringslite_CutPrefix (a_s:Str) (a_prefix:Str):Option (Str×Bool):=(internal_stringslite_HasPrefix a_s a_prefix).bind fun r1=>if ¬(r1=true) then some (a_s,false) else (subL a_s (some ((a_prefix.length:Int))) none).bind fun s2=>some (s2,true)
@[simp] def g3_O:(Str×Bool)→TV×List Blk:=fun r=>((.tup [(.str r.1),(.bool r.2)]),[])
def g3_E (a:Str×Str):List TV:=[(.str a.1),(.str a.2)]
theorem g3_run (a_s:Str) (a_prefix:Str) :callFn (X g3_S) g3_tf (g3_E (a_s,a_prefix)) []=(internal_stringslite_CutPrefix a_s a_prefix).map g3_O:=by
  rw [callFn_eq]
  simp (maxSteps:=2000000) (maxDischargeDepth:=8) -implicitDefEqProofs [g3_tf,internal_stringslite_CutPrefix,g3_E] <;> (try simp only [map_to_bind,some_elim,g3_O])
def g3_r:Rule:=RlO g3_E (fun a=>internal_stringslite_CutPrefix a.1 a.2) g3_O
theorem g3_ok:RuleOk Tryd.prog 133 g3_r:=ok_rlo (S:=g3_S) (tf:=g3_tf) (SysOk.on ⟨g2_ok,trivial⟩ trivial) (trE_ok (ks:=[]) Tryd.func133 (by kernel_rfl)) fun a=>g3_run a.1 a.2
@[simp] theorem g3_app (y0 y1):g3_r [(.str y0),(.str y1)]=(internal_stringslite_CutPrefix y0 y1).map g3_O :=
  RlO_app (enc:=g3_E) (by intro a b h;simp [g3_E,Prod.ext_iff] at h ⊢;simp [h]) (y0,y1)
/-! strings.CutPrefix -/
def g13_tf:TFn:=⟨(sq [mk 4 (.c (.str [])),mk 5 (kb false)] [0,1] (.seq (.ops [mo 6 0,mo 7 1,ca 8 133 [.t 6,.t 7],oo 9 (.ext (.t 8) 0),oo 10 (.ext (.t 8) 1),mo 4 9,mo 5 10]) (.keep (kp [(4,0),(5,0)] [] 0) .ret))),[.t 4,.t 5]⟩
abbrev g13_S:=Sys.on [(133,g3_r)] []
def strings_CutPrefix (a_s:Str) (a_prefix:Str):Option (Str×Bool):=(internal_stringslite_CutPrefix a_s a_prefix).bind fun r1=>some (r1.1,r1.2)
@[simp] def g13_O:(Str×Bool)→TV×List Blk:=fun r=>((.tup [(.str r.1),(.bool r.2)]),[])
def g13_E (a:Str×Str):List TV:=[(.str a.1),(.str a.2)]
theorem g13_run (a_s:Str) (a_prefix:Str) :callFn (X g13_S) g13_tf (g13_E (a_s,a_prefix)) []=(strings_CutPrefix a_s a_prefix).map g13_O:=by
  rw [callFn_eq]
  simp (maxSteps:=2000000) (maxDischargeDepth:=8) -implicitDefEqProofs [g13_tf,strings_CutPrefix,g13_E] <;> (try simp only [map_to_bind,some_elim,g13_O])
def g13_r:Rule:=RlO g13_E (fun a=>strings_CutPrefix a.1 a.2) g13_O
theorem g13_ok:RuleOk Tryd.prog 97 g13_r:=ok_rlo (S:=g13_S) (tf:=g13_tf) (SysOk.on ⟨g3_ok,trivial⟩ trivial) (trE_ok (ks:=[]) Tryd.func97 (by kernel_rfl)) fun a=>g13_run a.1 a.2
@[simp] theorem g13_app (y0 y1):g13_r [(.str y0),(.str y1)]=(strings_CutPrefix y0 y1).map g13_O :=
  RlO_app (enc:=g13_E) (by intro a b h;simp [g13_E,Prod.ext_iff] at h ⊢;simp [h]) (y0,y1)
/-! (*impl.scanner).accept -/
def g4_tf:TFn:=⟨(sq [mk 4 (kb false)] [0,1] (sq [mo 8 0,nk 9 8,fa 10 0 9,ld 11 10,mo 12 1,ca 13 97 [.t 11,.t 12],mo 7 13,oo 14 (.ext (.t 7) 0),oo 15 (.ext (.t 7) 1),mo 5 14,mo 6 15] [0,5,6] (sq [mo 16 0,mo 17 5,nk 18 16,fa 19 0 18,⟨none,none,(.store 1 (.t 19) (.t 17))⟩] [6] (.seq (.ops [mo 20 6,mo 4 20]) (.keep (kp [(4,0)] [(0,0)] 1) .ret))))),[.t 4]⟩
abbrev g4_S:=Sys.on [(97,g13_r)] []
def impl_scanner_accept_o0b (a1:Str×Bool) (a2:Str):Option ((Str×Bool)×Bool):=(strings_CutPrefix a1.1 a2).bind fun r1=>some ((r1.1,a1.2),r1.2)
@[simp] def g4_O:((Str×Bool)×Bool)→TV×List Blk:=fun r=>((.bool r.2),[(.live 2 [[(.str r.1.1),(.bool r.1.2)]])])
abbrev g4_T:=(Str×Bool)×Str
def g4_E (a:g4_T):List TV:=[(.ptr 0 0 0),(.str a.2)]
def g4_B (a:g4_T):List Blk:=[(.live 2 [[(.str a.1.1),(.bool a.1.2)]])]
theorem g4_run (a1:Str×Bool) (a2:Str) :callFn (X g4_S) g4_tf (g4_E (a1,a2)) (g4_B (a1,a2))=(impl_scanner_accept_o0b a1 a2).map g4_O:=by
  rw [callFn_eq]
  simp (maxSteps:=2000000) (maxDischargeDepth:=8) -implicitDefEqProofs [g4_tf,impl_scanner_accept_o0b,g4_E,g4_B] <;> (try simp only [map_to_bind,some_elim,g4_O])
def g4_r:MRule:=RmO g4_E g4_B (fun a=>impl_scanner_accept_o0b a.1 a.2) g4_O
theorem g4_ok:MRuleOk Tryd.prog 54 1 g4_r:=ok_rmo (S:=g4_S) (tf:=g4_tf) (SysOk.on ⟨g13_ok,trivial⟩ trivial) (trE_ok (ks:=[]) Tryd.func54 (by kernel_rfl)) (by rfl) (fun _=>by simp [g4_B]) (fun _=>by simp) fun a=>g4_run a.1 a.2
@[simp] theorem g4_app (y0 y1 y2):g4_r [(.ptr 0 0 0),(.str y2)] [(.live 2 [[(.str y0),(.bool y1)]])]=(impl_scanner_accept_o0b ((y0,y1)) y2).map g4_O:=by
  exact RmO_app (enc:=g4_E) (encB:=g4_B) (by intro a b h h2;simp [g4_E,g4_B,Prod.ext_iff] at h h2 ⊢;simp [h,h2]) ((y0,y1),y2)
/-! (*impl.scanner).expect -/
def g5_tf:TFn:=⟨(sq [mo 4 0,mo 5 1,oo 6 (.callM 54 0 [0] [.t 4,.t 5]),nt 7 6] [0,7] (.cond (.t 7) (.after (.ops [mo 8 0,nk 9 8,fa 10 1 9,⟨none,none,(.store 1 (.t 10) (kb true))⟩]) (kp [] [(0,0)] 1)) (.keep (kp [] [(0,0)] 1) .skip))),[]⟩
abbrev g5_S:=Sys.on [] [((54,0),(1,g4_r))]
def impl_scanner_expect_o0b (a1:Str×Bool) (a2:Str):Option ((Str×Bool)):=(impl_scanner_accept_o0b a1 a2).bind fun r1=>if ¬(r1.2=true) then some ((r1.1.1,true)) else some r1.1
@[simp] def g5_O:((Str×Bool))→TV×List Blk:=fun r=>((.tup []),[(.live 2 [[(.str r.1),(.bool r.2)]])])
abbrev g5_T:=(Str×Bool)×Str
def g5_E (a:g5_T):List TV:=[(.ptr 0 0 0),(.str a.2)]
def g5_B (a:g5_T):List Blk:=[(.live 2 [[(.str a.1.1),(.bool a.1.2)]])]
theorem g5_run (a1:Str×Bool) (a2:Str) :callFn (X g5_S) g5_tf (g5_E (a1,a2)) (g5_B (a1,a2))=(impl_scanner_expect_o0b a1 a2).map g5_O:=by
  rw [callFn_eq]
  simp (maxSteps:=2000000) (maxDischargeDepth:=8) -implicitDefEqProofs [g5_tf,impl_scanner_expect_o0b,g5_E,g5_B] <;> (try simp only [map_to_bind,some_elim,g5_O])
def g5_r:MRule:=RmO g5_E g5_B (fun a=>impl_scanner_expect_o0b a.1 a.2) g5_O
theorem g5_ok:MRuleOk Tryd.prog 88 1 g5_r:=ok_rmo (S:=g5_S) (tf:=g5_tf) (SysOk.on trivial ⟨g4_ok,trivial⟩) (trE_ok (ks:=[]) Tryd.func88 (by kernel_rfl)) (by rfl) (fun _=>by simp [g5_B]) (fun _=>by simp) fun a=>g5_run a.1 a.2
@[simp] theorem g5_app (y0 y1 y2):g5_r [(.ptr 0 0 0),(.str y2)] [(.live 2 [[(.str y0),(.bool y1)]])]=(impl_scanner_expect_o0b ((y0,y1)) y2).map g5_O:=by
  exact RmO_app (enc:=g5_E) (encB:=g5_B) (by intro a b h h2;simp [g5_E,g5_B,Prod.ext_iff] at h h2 ⊢;simp [h,h2]) ((y0,y1),y2)
/-! impl.isDigit -/
def g32_tf:TFn:=⟨(sq [mk 2 (kb false)] [0] (.seq (.after (.ops [mo 3 0,oo 4 (.bin .num .geq (.t 3) (.c (.int .u8 48))),mo 5 4,⟨(some 6),(some (5,true)),(.mv (.t 0))⟩,⟨(some 7),(some (5,true)),(.bin .num .leq (.t 6) (.c (.int .u8 57)))⟩,pk 8 (.t 5) (.t 7) (kb false),mo 2 8]) (kp [(2,0)] [] 0)) (.keep (kp [(2,0)] [] 0) .ret))),[.t 2]⟩
abbrev g32_S:=Sys.on [] []
def impl_isDigit (a_c:Int):Option (Bool):=if a_c ≥ 48 then some ((decide (a_c≤57))) else some false
@[simp] def g32_O:Bool→TV×List Blk:=fun r=>((.bool r),[])
def g32_E (a:Int):List TV:=[(.int .u8 a)]
theorem g32_run (a_c:Int) :callFn (X g32_S) g32_tf (g32_E a_c) []=(impl_isDigit a_c).map g32_O:=by
  rw [callFn_eq]
  simp (maxSteps:=2000000) (maxDischargeDepth:=8) -implicitDefEqProofs [g32_tf,impl_isDigit,g32_E] <;> (try simp only [map_to_bind,some_elim,g32_O])
def g32_r:Rule:=RlO g32_E (fun a=>impl_isDigit a) g32_O
theorem g32_ok:RuleOk Tryd.prog 129 g32_r:=ok_rlo (S:=g32_S) (tf:=g32_tf) (SysOk.on trivial trivial) (trE_ok (ks:=[]) Tryd.func129 (by kernel_rfl)) fun a=>g32_run a
@[simp] theorem g32_app (y0):g32_r [(.int .u8 y0)]=(impl_isDigit y0).map g32_O :=
  RlO_app (enc:=g32_E) (by intro a b h;simp [g32_E,Prod.ext_iff] at h ⊢;simp [h]) y0
/-! (*impl.scanner).number.1 -/
def g7_tf:TFn:=⟨(sq [mk 2 (kb false)] [0] (.seq (.after (.ops [mo 3 0,ca 4 129 [.t 3],mo 5 4,⟨(some 6),(some (5,false)),(.mv (.t 0))⟩,⟨(some 7),(some (5,false)),(.bin .num .eql (.t 6) (.c (.int .u8 45)))⟩,pk 8 (.t 5) (kb true) (.t 7),mo 2 8]) (kp [(2,0)] [] 0)) (.keep (kp [(2,0)] [] 0) .ret))),[.t 2]⟩
abbrev g7_S:=Sys.on [(129,g32_r)] []
def impl_scanner_number_c1 (a_c:Int):Option (Bool):=(impl_isDigit a_c).bind fun r1=>if r1=true then some true else some ((decide (a_c=45)))
@[simp] def g7_O:Bool→TV×List Blk:=fun r=>((.bool r),[])
def g7_E (a:Int):List TV:=[(.int .u8 a)]
theorem g7_run (a_c:Int) :callFn (X g7_S) g7_tf (g7_E a_c) []=(impl_scanner_number_c1 a_c).map g7_O:=by
  rw [callFn_eq]
  simp (maxSteps:=2000000) (maxDischargeDepth:=8) -implicitDefEqProofs [g7_tf,impl_scanner_number_c1,g7_E] <;> (try simp only [map_to_bind,some_elim,g7_O])
def g7_r:Rule:=RlO g7_E (fun a=>impl_scanner_number_c1 a) g7_O
theorem g7_ok:RuleOk Tryd.prog 128 g7_r:=ok_rlo (S:=g7_S) (tf:=g7_tf) (SysOk.on ⟨g32_ok,trivial⟩ trivial) (trE_ok (ks:=[]) Tryd.func128 (by kernel_rfl)) fun a=>g7_run a
@[simp] theorem g7_app (y0):g7_r [(.int .u8 y0)]=(impl_scanner_number_c1 y0).map g7_O :=
  RlO_app (enc:=g7_E) (by intro a b h;simp [g7_E,Prod.ext_iff] at h ⊢;simp [h]) y0
/-! (*impl.scanner).while -/
def g8l1_cb:TC:=(.seq (sq [mo 7 5,mo 8 0,nk 9 8,fa 10 0 9,ld 11 10,oo 12 (.len true (.t 11)),bn 13 .lss (.t 7) (.t 12),mo 14 13,⟨(some 15),(some (14,true)),(.mv (.t 1))⟩,⟨(some 16),(some (14,true)),(.mv (.t 0))⟩,⟨(some 17),(some (14,true)),(.nilchk (.t 16))⟩,⟨(some 18),(some (14,true)),(.faddr 0 (.t 17))⟩,⟨(some 19),(some (14,true)),(.load none (.t 18))⟩,⟨(some 20),(some (14,true)),(.mv (.t 5))⟩,⟨(some 21),(some (14,true)),(.index (.t 19) (.t 20))⟩,⟨(some 22),(some (14,true)),(.callv (.t 15) [.t 21])⟩,pk 23 (.t 14) (.t 22) (kb false)] [0,1,5,23] (.cond (.t 23) .skip (.keep (kp [(0,0),(5,0)] [(0,0)] 1) (.exit 0)))) (.trim [0,1,5] (.block 1 (.after (.ops [mo 24 5,bn 25 .add (.t 24) (ki 1),mo 5 25]) (kp [(0,0),(1,0),(5,0)] [(0,0)] 1)))))
def g8l1_c:TC:=.loop [0,1,5] g8l1_cb
def g8_tf:TFn:=⟨(sq [mk 4 (.c (.str []))] [0,1] (sq [mk 5 (ki 0)] [0,1,5] (.seq (.block 0 (.keep (kp [(0,0),(1,0),(5,0)] [(0,0)] 1) g8l1_c)) (.trim [0,5] (sq [mo 26 0,nk 27 26,fa 28 0 27,ld 29 28,mo 30 5,oo 31 (.sliceS (.t 29) none (some (.t 30))),mo 6 31] [0,5,6] (sq [mo 32 0,mo 33 0,nk 34 33,fa 35 0 34,ld 36 35,mo 37 5,oo 38 (.sliceS (.t 36) (some (.t 37)) none),nk 39 32,fa 40 0 39,⟨none,none,(.store 1 (.t 40) (.t 38))⟩] [6] (.seq (.ops [mo 41 6,mo 4 41]) (.keep (kp [(4,0)] [(0,0)] 1) .ret)))))))),[.t 4]⟩
abbrev g8_S:=Sys.on [(128,g7_r)] []
@[reducible,simp] def g8l1_F:((Str×Bool)×Int)→Out:=(fun t=>(.ext 0,[(0,(.ptr 0 0 0)),(5,(.int .i64 t.2))],[(.live 2 [[(.str t.1.1),(.bool t.1.2)]])]))
def impl_scanner_while_o53_l1_b (v1:Str×Bool) (v2:Int):Option ((Int) ⊕ ((Str×Bool)×Int)):=if v2 < (v1.1.length:Int) then if 0≤v2 then (v1.1[(v2).toNat]?).bind fun (b3:UInt8)=>(impl_scanner_number_c1 ((b3.toNat:Int))).bind fun r4=>if r4=true then some (.inl ((IntKind.i64.wrap (v2+1)))) else some (.inr (v1,v2)) else none else some (.inr (v1,v2))
theorem g8l1_b_eq  (v1:Str×Bool) (v2:Int):X g8_S g8l1_cb (keepEnv [0,1,5] [(0,(.ptr 0 0 0)),(1,(.fn 128 [] [])),(5,(.int .i64 v2))]) [(.live 2 [[(.str v1.1),(.bool v1.2)]])]=(impl_scanner_while_o53_l1_b v1 v2).map (Sum.elim (fun s=>(TX.nrm,[(0,(.ptr 0 0 0)),(1,(.fn 128 [] [])),(5,(.int .i64 s))],[(.live 2 [[(.str v1.1),(.bool v1.2)]])])) g8l1_F):=by
  simp (maxSteps:=2000000) (maxDischargeDepth:=8) -implicitDefEqProofs [g8l1_cb,impl_scanner_while_o53_l1_b] <;> (try simp only [map_to_bind,some_elim,g8l1_F])
def impl_scanner_while_o53_l1 (v1:Str×Bool) (s:Int):Option ((Str×Bool)×Int):=loopO (fun s=>impl_scanner_while_o53_l1_b v1 s) s
@[simp] theorem g8l1_eq (y0 y1 y2):X g8_S g8l1_c [(0,(.ptr 0 0 0)),(1,(.fn 128 [] [])),(5,(.int .i64 y2))] [(.live 2 [[(.str y0),(.bool y1)]])]=(impl_scanner_while_o53_l1 ((y0,y1)) y2).map g8l1_F:=by
  exact loop_X _ _ _ _ (by intro r;first | (simp;done) | (rcases r with r | r <;> simp;done) | (rcases r with r | r | r <;> simp;done) | (rcases r with r | r | r | r <;> simp)) (fun s=>g8l1_b_eq  ((y0,y1)) s) y2
def impl_scanner_while_o53 (a1:Str×Bool):Option ((Str×Bool)×Str):=(impl_scanner_while_o53_l1 a1 0).bind fun r5=>(subL r5.1.1 none (some r5.2)).bind fun s6=>(subL r5.1.1 (some r5.2) none).bind fun s7=>some ((s7,r5.1.2),s6)
@[simp] def g8_O:((Str×Bool)×Str)→TV×List Blk:=fun r=>((.str r.2),[(.live 2 [[(.str r.1.1),(.bool r.1.2)]])])
abbrev g8_T:=(Str×Bool)
def g8_E (a:g8_T):List TV:=[(.ptr 0 0 0),(.fn 128 [] [])]
def g8_B (a:g8_T):List Blk:=[(.live 2 [[(.str a.1),(.bool a.2)]])]
theorem g8_run (a1:Str×Bool) :callFn (X g8_S) g8_tf (g8_E a1) (g8_B a1)=(impl_scanner_while_o53 a1).map g8_O:=by
  rw [callFn_eq]
  simp (maxSteps:=2000000) (maxDischargeDepth:=8) -implicitDefEqProofs [g8_tf,impl_scanner_while_o53,g8_E,g8_B] <;> (try simp only [map_to_bind,some_elim,g8_O])
def g8_r:MRule:=RmO g8_E g8_B (fun a=>impl_scanner_while_o53 a) g8_O
theorem g8_ok:MRuleOk Tryd.prog 127 1 g8_r:=ok_rmo (S:=g8_S) (tf:=g8_tf) (SysOk.on ⟨g7_ok,trivial⟩ trivial) (trE_ok (ks:=[[0,1,5]]) Tryd.func127 (by kernel_rfl)) (by rfl) (fun _=>by simp [g8_B]) (fun _=>by simp) fun a=>g8_run a
@[simp] theorem g8_app (y0 y1):g8_r [(.ptr 0 0 0),(.fn 128 [] [])] [(.live 2 [[(.str y0),(.bool y1)]])]=(impl_scanner_while_o53 ((y0,y1))).map g8_O:=by
  exact RmO_app (enc:=g8_E) (encB:=g8_B) (by intro a b h h2;simp [g8_E,g8_B,Prod.ext_iff] at h h2 ⊢;simp [h,h2]) ((y0,y1))
/-! impl.readDecimal -/
noncomputable def impl_readDecimal (s:Str):Option (Int×Bool):=rdecS s
noncomputable def impl_readDecimal_r:Rule:=rdec_r
@[simp] theorem impl_readDecimal_app (y0):impl_readDecimal_r [.str y0]=(impl_readDecimal y0).map (fun r=>(.tup [.int .i64 r.1,.bool r.2],[])):=rdecS_app y0
/-! (*impl.scanner).number -/
def g6_tf:TFn:=⟨(sq [mk 2 (ki 0)] [0] (sq [mo 6 0,oo 7 (.callM 127 0 [0] [.t 6,(.c (.fn 128 [] []))]),ca 8 63 [.t 7],mo 5 8,oo 9 (.ext (.t 5) 0),oo 10 (.ext (.t 5) 1),mo 3 9,mo 4 10] [0,3,4] (.seq (sq [mo 11 4,nt 12 11] [0,3,12] (.cond (.t 12) (.after (.ops [mo 13 0,nk 14 13,fa 15 1 14,⟨none,none,(.store 1 (.t 15) (kb true))⟩]) (kp [(3,0)] [(0,0)] 1)) (.keep (kp [(3,0)] [(0,0)] 1) .skip))) (.trim [3] (.seq (.ops [mo 16 3,mo 2 16]) (.keep (kp [(2,0)] [(0,0)] 1) .ret)))))),[.t 2]⟩
abbrev g6_S:=Sys.on [(63,impl_readDecimal_r)] [((127,0),(1,g8_r))]
def impl_scanner_number_od0 (a1:Str×Bool):Option ((Str×Bool)×Int):=(impl_scanner_while_o53 a1).bind fun r1=>(impl_readDecimal r1.2).bind fun r2=>if ¬(r2.2=true) then some ((r1.1.1,true),r2.1) else some (r1.1,r2.1)
@[simp] def g6_O:((Str×Bool)×Int)→TV×List Blk:=fun r=>((.int .i64 r.2),[(.live 2 [[(.str r.1.1),(.bool r.1.2)]])])
abbrev g6_T:=(Str×Bool)
def g6_E (a:g6_T):List TV:=[(.ptr 0 0 0)]
def g6_B (a:g6_T):List Blk:=[(.live 2 [[(.str a.1),(.bool a.2)]])]
theorem g6_run (a1:Str×Bool) :callFn (X g6_S) g6_tf (g6_E a1) (g6_B a1)=(impl_scanner_number_od0 a1).map g6_O:=by
  rw [callFn_eq]
  simp (maxSteps:=2000000) (maxDischargeDepth:=8) -implicitDefEqProofs [g6_tf,impl_scanner_number_od0,g6_E,g6_B] <;> (try simp only [map_to_bind,some_elim,g6_O])
def g6_r:MRule:=RmO g6_E g6_B (fun a=>impl_scanner_number_od0 a) g6_O
theorem g6_ok:MRuleOk Tryd.prog 89 1 g6_r:=ok_rmo (S:=g6_S) (tf:=g6_tf) (SysOk.on ⟨impl_readDecimal_ok,trivial⟩ ⟨g8_ok,trivial⟩) (trE_ok (ks:=[]) Tryd.func89 (by kernel_rfl)) (by rfl) (fun _=>by simp [g6_B]) (fun _=>by simp) fun a=>g6_run a
@[simp] theorem g6_app (y0 y1):g6_r [(.ptr 0 0 0)] [(.live 2 [[(.str y0),(.bool y1)]])]=(impl_scanner_number_od0 ((y0,y1))).map g6_O:=by
  exact RmO_app (enc:=g6_E) (encB:=g6_B) (by intro a b h h2;simp [g6_E,g6_B,Prod.ext_iff] at h h2 ⊢;simp [h,h2]) ((y0,y1))
/-! (*impl.scanner).space -/
def g9p2_c:TC:=(sq [fa 35 0 3,ld 36 35,mo 37 4,oo 38 (.bslice [(.int .i64 0)] 1 [(0,(.t 37))]),oo 39 (.append 2 1 8 (.t 36) (.t 38)),fa 40 0 3,⟨none,none,(.store 1 (.t 40) (.t 39))⟩] [0,2,3,5] (.after (.ops [fa 41 1 3,ld 42 41,mo 43 5,oo 44 (.bslice [(.int .i64 0)] 1 [(0,(.t 43))]),oo 45 (.append 2 1 8 (.t 42) (.t 44)),fa 46 1 3,⟨none,none,(.store 1 (.t 46) (.t 45))⟩]) (kp [(0,0),(2,0),(3,0)] [(0,0),(1,2),(2,2),(6,1),(8,1)] 1)))
def g9p3_c:TC:=(sq [mo 24 0,oo 25 (.callM 89 0 [0] [.t 24]),mo 4 25] [0,2,3,4] (sq [mo 26 4,mo 5 26] [0,2,3,4,5] (.seq (.block 2 (sq [mo 28 0,oo 29 (.callM 54 0 [0] [.t 28,(.c (.str [47,42]))]),mo 27 29] [0,2,3,4,5,27] (.cond (.t 27) (.after (.ops [mk 5 (ki (-1))]) (kp [(0,0),(2,0),(3,0),(4,0),(5,0)] [(0,0),(1,2),(2,2),(3,1),(4,1)] 1)) (sq [mo 31 0,oo 32 (.callM 54 0 [0] [.t 31,(.c (.str [47]))]),mo 30 32] [0,2,3,4,5,30] (.cond (.t 30) (.after (.ops [mo 33 0,oo 34 (.callM 89 0 [0] [.t 33]),mo 5 34]) (kp [(0,0),(2,0),(3,0),(4,0),(5,0)] [(0,0),(1,2),(2,2),(3,1),(4,1)] 1)) (.keep (kp [(0,0),(2,0),(3,0),(4,0),(5,0)] [(0,0),(1,2),(2,2),(3,1),(4,1)] 1) .skip)))))) (.trim [0,2,3,4,5] g9p2_c))))
def g9l1_cb:TC:=(.seq (sq [mo 8 0,nk 9 8,fa 10 1 9,ld 11 10,nt 12 11,mo 13 12,⟨(some 14),(some (13,true)),(.mv (.t 0))⟩,⟨(some 15),(some (13,true)),(.callM 54 0 [0] [.t 14,(.c (.str [41]))])⟩,⟨(some 16),(some (13,true)),(.un .not (.t 15))⟩,pk 17 (.t 13) (.t 16) (kb false)] [0,2,3,17] (.cond (.t 17) .skip (.keep (kp [(2,0),(3,0)] [(0,0),(1,2),(2,2),(3,1),(4,1)] 1) (.exit 0)))) (.trim [0,2,3] (.block 1 (.seq (sq [fa 18 0 3,ld 19 18,le 20 19,bn 21 .gtr (.t 20) (ki 0)] [0,2,3,21] (.cond (.t 21) (.after (.ops [mo 22 0,oo 23 (.callM 88 0 [0] [.t 22,(.c (.str [44]))])]) (kp [(0,0),(2,0),(3,0)] [(0,0),(1,2),(2,2),(3,1),(4,1)] 1)) (.keep (kp [(0,0),(2,0),(3,0)] [(0,0),(1,2),(2,2),(3,1),(4,1)] 1) .skip))) (.trim [0,2,3] g9p3_c)))))
def g9l1_c:TC:=.loop [0,2,3] g9l1_cb
def g9_tf:TFn:=⟨(sq [oo 2 (.alloc [.nils,.nils])] [0,2] (sq [oo 3 (.alloc [.nils,.nils])] [0,2,3] (sq [mo 6 0,oo 7 (.callM 88 0 [0] [.t 6,(.c (.str [40]))])] [0,2,3] (.seq (.block 0 (.keep (kp [(0,0),(2,0),(3,0)] [(0,0),(1,2),(2,2),(1000,1),(1001,1)] 1) g9l1_c)) (.trim [2,3] (.seq (.ops [ln 47 2 3,⟨none,none,(.store 2 (.t 2) (.t 47))⟩]) (.keep (kp [(2,0)] [(0,0),(1,2),(3,1),(4,1)] 1) .ret))))))),[.cell 2 (some 2)]⟩
abbrev g9_S:=Sys.on [] [((88,0),(1,g5_r)),((54,0),(1,g4_r)),((89,0),(1,g6_r))]
@[reducible,simp] def g9p2_F:((Str×Bool)×(List Int×List Int))→Out:=(fun t=>(.nrm,[(0,(.ptr 0 0 0)),(2,(.ptr 1 0 0)),(3,(.ptr 2 0 0))],[(.live 2 [[(.str t.1.1),(.bool t.1.2)]]),(.live 2 [[.es,.es]]),(.live 2 [[(ow 3 t.2.1.length),(ow 4 t.2.2.length)]]),(ob 1 t.2.1),(ob 1 t.2.2)]))
def impl_scanner_space_od0_p2 (v12:Str×Bool) (v13:List Int×List Int) (v14:Int) (v15:Int):Option ((Str×Bool)×(List Int×List Int)):=(appL 8 v13.1 ((lit [v14]:List Int))).bind fun l16=>(appL 8 v13.2 ((lit [v15]:List Int))).bind fun l17=>some ((v12,(l16,l17)))
@[simp] theorem g9p2_eq (y0 y1)(y2:List Int)(y3:List Int)(y4 y5){n1:Nat}(h1:n1=y2.length){n2:Nat}(h2:n2=y3.length):X g9_S g9p2_c [(0,(.ptr 0 0 0)),(2,(.ptr 1 0 0)),(3,(.ptr 2 0 0)),(4,(.int .i64 y4)),(5,(.int .i64 y5))] [(.live 2 [[(.str y0),(.bool y1)]]),(.live 2 [[.es,.es]]),(.live 2 [[(ow 3 n1),(ow 4 n2)]]),(ob 1 y2),(ob 1 y3)]=(impl_scanner_space_od0_p2 ((y0,y1)) ((y2,y3)) y4 y5).map g9p2_F:=by
  subst h1 h2
  simp (maxSteps:=2000000) (maxDischargeDepth:=8) -implicitDefEqProofs [g9p2_c,impl_scanner_space_od0_p2,bslV_lit (α:=Int) (zs:=[(.int .i64 0)])] <;> (try simp only [map_to_bind,some_elim,g9p2_F])
@[reducible,simp] def g9p3_F:((Str×Bool)×(List Int×List Int))→Out:=(fun t=>(.nrm,[(0,(.ptr 0 0 0)),(2,(.ptr 1 0 0)),(3,(.ptr 2 0 0))],[(.live 2 [[(.str t.1.1),(.bool t.1.2)]]),(.live 2 [[.es,.es]]),(.live 2 [[(ow 3 t.2.1.length),(ow 4 t.2.2.length)]]),(ob 1 t.2.1),(ob 1 t.2.2)]))
def impl_scanner_space_od0_p3 (v6:Str×Bool) (v7:List Int×List Int):Option ((Str×Bool)×(List Int×List Int)):=(impl_scanner_number_od0 v6).bind fun r8=>(impl_scanner_accept_o0b r8.1 (([47,42]:Str))).bind fun r9=>if r9.2=true then (impl_scanner_space_od0_p2 r9.1 v7 r8.2 ((-1))).bind fun r18=>some ((r18.1,r18.2)) else (impl_scanner_accept_o0b r9.1 (([47]:Str))).bind fun r10=>if r10.2=true then (impl_scanner_number_od0 r10.1).bind fun r11=>(impl_scanner_space_od0_p2 r11.1 v7 r8.2 r11.2).bind fun r19=>some ((r19.1,r19.2)) else (impl_scanner_space_od0_p2 r10.1 v7 r8.2 r8.2).bind fun r20=>some ((r20.1,r20.2))
@[simp] theorem g9p3_eq (y0 y1)(y2:List Int)(y3:List Int){n1:Nat}(h1:n1=y2.length){n2:Nat}(h2:n2=y3.length):X g9_S g9p3_c [(0,(.ptr 0 0 0)),(2,(.ptr 1 0 0)),(3,(.ptr 2 0 0))] [(.live 2 [[(.str y0),(.bool y1)]]),(.live 2 [[.es,.es]]),(.live 2 [[(ow 3 n1),(ow 4 n2)]]),(ob 1 y2),(ob 1 y3)]=(impl_scanner_space_od0_p3 ((y0,y1)) ((y2,y3))).map g9p3_F:=by
  subst h1 h2
  simp (maxSteps:=2000000) (maxDischargeDepth:=8) -implicitDefEqProofs [g9p3_c,impl_scanner_space_od0_p3,bslV_lit (α:=Int) (zs:=[(.int .i64 0)])] <;> (try simp only [map_to_bind,some_elim,g9p3_F])
@[reducible,simp] def g9l1_F:((Str×Bool)×(List Int×List Int))→Out:=(fun t=>(.ext 0,[(2,(.ptr 1 0 0)),(3,(.ptr 2 0 0))],[(.live 2 [[(.str t.1.1),(.bool t.1.2)]]),(.live 2 [[.es,.es]]),(.live 2 [[(ow 3 t.2.1.length),(ow 4 t.2.2.length)]]),(ob 1 t.2.1),(ob 1 t.2.2)]))
def impl_scanner_space_od0_l1_b (v2:Str×Bool) (v3:List Int×List Int):Option (((Str×Bool)×(List Int×List Int)) ⊕ ((Str×Bool)×(List Int×List Int))):=if ¬(v2.2=true) then (impl_scanner_accept_o0b v2 (([41]:Str))).bind fun r4=>if ¬(r4.2=true) then if ((v3.1.length:Nat):Int) > 0 then (impl_scanner_expect_o0b r4.1 (([44]:Str))).bind fun r5=>(impl_scanner_space_od0_p3 r5 v3).bind fun r21=>some (.inl (r21.1,r21.2)) else (impl_scanner_space_od0_p3 r4.1 v3).bind fun r22=>some (.inl (r22.1,r22.2)) else some (.inr (r4.1,v3)) else some (.inr (v2,v3))
theorem g9l1_b_eq  (v2:Str×Bool) (v3:List Int×List Int):X g9_S g9l1_cb (keepEnv [0,2,3] [(0,(.ptr 0 0 0)),(2,(.ptr 1 0 0)),(3,(.ptr 2 0 0))]) [(.live 2 [[(.str v2.1),(.bool v2.2)]]),(.live 2 [[.es,.es]]),(.live 2 [[(ow 3 v3.1.length),(ow 4 v3.2.length)]]),(ob 1 v3.1),(ob 1 v3.2)]=(impl_scanner_space_od0_l1_b v2 v3).map (Sum.elim (fun s=>(TX.nrm,[(0,(.ptr 0 0 0)),(2,(.ptr 1 0 0)),(3,(.ptr 2 0 0))],[(.live 2 [[(.str s.1.1),(.bool s.1.2)]]),(.live 2 [[.es,.es]]),(.live 2 [[(ow 3 s.2.1.length),(ow 4 s.2.2.length)]]),(ob 1 s.2.1),(ob 1 s.2.2)])) g9l1_F):=by
  simp (maxSteps:=2000000) (maxDischargeDepth:=8) -implicitDefEqProofs [g9l1_cb,impl_scanner_space_od0_l1_b,bslV_lit (α:=Int) (zs:=[(.int .i64 0)])] <;> (try simp only [map_to_bind,some_elim,g9l1_F])
def impl_scanner_space_od0_l1  (s:(Str×Bool)×(List Int×List Int)):Option ((Str×Bool)×(List Int×List Int)):=loopO (fun s=>impl_scanner_space_od0_l1_b  s.1 s.2) s
@[simp] theorem g9l1_eq (y0 y1)(y2:List Int)(y3:List Int){n1:Nat}(h1:n1=y2.length){n2:Nat}(h2:n2=y3.length):X g9_S g9l1_c [(0,(.ptr 0 0 0)),(2,(.ptr 1 0 0)),(3,(.ptr 2 0 0))] [(.live 2 [[(.str y0),(.bool y1)]]),(.live 2 [[.es,.es]]),(.live 2 [[(ow 3 n1),(ow 4 n2)]]),(ob 1 y2),(ob 1 y3)]=(impl_scanner_space_od0_l1  ((y0,y1),(y2,y3))).map g9l1_F:=by
  subst h1 h2
  exact loop_X _ _ _ _ (by intro r;first | (simp;done) | (rcases r with r | r <;> simp;done) | (rcases r with r | r | r <;> simp;done) | (rcases r with r | r | r | r <;> simp)) (fun s=>g9l1_b_eq   s.1 s.2) ((y0,y1),(y2,y3))
@[simp] theorem g9l1_eq_1x0_1x1 (y0 y1):X g9_S g9l1_c [(0,(.ptr 0 0 0)),(2,(.ptr 1 0 0)),(3,(.ptr 2 0 0))] [(.live 2 [[(.str y0),(.bool y1)]]),(.live 2 [[.es,.es]]),(.live 2 [[.es,.es]]),.dead,.dead]=(impl_scanner_space_od0_l1  ((y0,y1),(([]:List Int),([]:List Int)))).map g9l1_F :=
  g9l1_eq  y0 y1 ([]:List Int) ([]:List Int) rfl rfl
def impl_scanner_space_od0 (a1:Str×Bool):Option ((Str×Bool)×(List Int×List Int)):=(impl_scanner_expect_o0b a1 (([40]:Str))).bind fun r1=>(impl_scanner_space_od0_l1 ((r1,(([]:List Int),([]:List Int))))).bind fun r23=>some (r23.1,r23.2)
@[simp] def g9_O:((Str×Bool)×(List Int×List Int))→TV×List Blk:=fun r=>((.agg [(ow 2 r.2.1.length),(ow 3 r.2.2.length)]),[(.live 2 [[(.str r.1.1),(.bool r.1.2)]]),(.live 2 [[(ow 2 r.2.1.length),(ow 3 r.2.2.length)]]),(ob 1 r.2.1),(ob 1 r.2.2)])
abbrev g9_T:=(Str×Bool)
def g9_E (a:g9_T):List TV:=[(.ptr 0 0 0)]
def g9_B (a:g9_T):List Blk:=[(.live 2 [[(.str a.1),(.bool a.2)]])]
theorem g9_run (a1:Str×Bool) :callFn (X g9_S) g9_tf (g9_E a1) (g9_B a1)=(impl_scanner_space_od0 a1).map g9_O:=by
  rw [callFn_eq]
  simp (maxSteps:=2000000) (maxDischargeDepth:=8) -implicitDefEqProofs [g9_tf,impl_scanner_space_od0,g9_E,g9_B,bslV_lit (α:=Int) (zs:=[(.int .i64 0)])] <;> (try simp only [map_to_bind,some_elim,g9_O])
def g9_r:MRule:=RmO g9_E g9_B (fun a=>impl_scanner_space_od0 a) g9_O
theorem g9_ok:MRuleOk Tryd.prog 46 1 g9_r:=ok_rmo (S:=g9_S) (tf:=g9_tf) (SysOk.on trivial ⟨g5_ok,g4_ok,g6_ok,trivial⟩) (trE_ok (ks:=[[0,2,3]]) Tryd.func46 (by kernel_rfl)) (by rfl) (fun _=>by simp [g9_B]) (fun _=>by simp) fun a=>g9_run a
@[simp] theorem g9_app (y0 y1):g9_r [(.ptr 0 0 0)] [(.live 2 [[(.str y0),(.bool y1)]])]=(impl_scanner_space_od0 ((y0,y1))).map g9_O:=by
  exact RmO_app (enc:=g9_E) (encB:=g9_B) (by intro a b h h2;simp [g9_E,g9_B,Prod.ext_iff] at h h2 ⊢;simp [h,h2]) ((y0,y1))
/-! impl.within -/
def g37_tf:TFn:=⟨(sq [mk 6 (kb false)] [0,1,2] (.seq (.after (.ops [mo 7 0,mo 8 1,bn 9 .geq (.t 7) (.t 8),mo 10 9,⟨(some 11),(some (10,true)),(.mv (.t 0))⟩,⟨(some 12),(some (10,true)),(.mv (.t 2))⟩,⟨(some 13),(some (10,true)),(.bin .num .leq (.t 11) (.t 12))⟩,pk 14 (.t 10) (.t 13) (kb false),mo 6 14]) (kp [(6,0)] [] 0)) (.keep (kp [(6,0)] [] 0) .ret))),[.t 6]⟩
abbrev g37_S:=Sys.on [] []
def impl_within (a_n:Int) (a_low:Int) (a_high:Int):Option (Bool):=if a_n ≥ a_low then some ((decide (a_n≤a_high))) else some false
@[simp] def g37_O:Bool→TV×List Blk:=fun r=>((.bool r),[])
def g37_E (a:Int×Int×Int):List TV:=[(.int .i64 a.1),(.int .i64 a.2.1),(.int .i64 a.2.2)]
theorem g37_run (a_n:Int) (a_low:Int) (a_high:Int) :callFn (X g37_S) g37_tf (g37_E (a_n,a_low,a_high)) []=(impl_within a_n a_low a_high).map g37_O:=by
  rw [callFn_eq]
  simp (maxSteps:=2000000) (maxDischargeDepth:=8) -implicitDefEqProofs [g37_tf,impl_within,g37_E] <;> (try simp only [map_to_bind,some_elim,g37_O])
def g37_r:Rule:=RlO g37_E (fun a=>impl_within a.1 a.2.1 a.2.2) g37_O
theorem g37_ok:RuleOk Tryd.prog 91 g37_r:=ok_rlo (S:=g37_S) (tf:=g37_tf) (SysOk.on trivial trivial) (trE_ok (ks:=[]) Tryd.func91 (by kernel_rfl)) fun a=>g37_run a.1 a.2.1 a.2.2
@[simp] theorem g37_app (y0 y1 y2):g37_r [(.int .i64 y0),(.int .i64 y1),(.int .i64 y2)]=(impl_within y0 y1 y2).map g37_O :=
  RlO_app (enc:=g37_E) (by intro a b h;simp [g37_E,Prod.ext_iff] at h ⊢;simp [h]) (y0,y1,y2)
/-! impl.allWithin.1 -/
def g14_tf:TFn:=⟨(sq [mk 4 (kb false)] [0,1,2] (.seq (.ops [mo 5 0,ld 6 1,ld 7 2,ca 8 91 [.t 5,.t 6,.t 7],nt 9 8,mo 4 9]) (.keep (kp [(4,0)] [] 0) .ret))),[.t 4]⟩
abbrev g14_S:=Sys.on [(91,g37_r)] []
def impl_allWithin_c1 (a_n:Int) (a_p:Int) (a_p':Int):Option (Bool):=(impl_within a_n a_p a_p').bind fun r1=>some ((!r1))
@[simp] def g14_O:Bool→TV×List Blk:=fun r=>((.bool r),[])
def g14_E (a:Int×Int×Int):List TV:=[(.int .i64 a.1),(.vp [(.int .i64 a.2.1)]),(.vp [(.int .i64 a.2.2)])]
theorem g14_run (a_n:Int) (a_p:Int) (a_p':Int) :callFn (X g14_S) g14_tf (g14_E (a_n,a_p,a_p')) []=(impl_allWithin_c1 a_n a_p a_p').map g14_O:=by
  rw [callFn_eq]
  simp (maxSteps:=2000000) (maxDischargeDepth:=8) -implicitDefEqProofs [g14_tf,impl_allWithin_c1,g14_E] <;> (try simp only [map_to_bind,some_elim,g14_O])
def g14_r:Rule:=RlO g14_E (fun a=>impl_allWithin_c1 a.1 a.2.1 a.2.2) g14_O
theorem g14_ok:RuleOk Tryd.prog 143 g14_r:=ok_rlo (S:=g14_S) (tf:=g14_tf) (SysOk.on ⟨g37_ok,trivial⟩ trivial) (trE_ok (ks:=[]) Tryd.func143 (by kernel_rfl)) fun a=>g14_run a.1 a.2.1 a.2.2
@[simp] theorem g14_app (y0 y1 y2):g14_r [(.int .i64 y0),(.vp [(.int .i64 y1)]),(.vp [(.int .i64 y2)])]=(impl_allWithin_c1 y0 y1 y2).map g14_O :=
  RlO_app (enc:=g14_E) (by intro a b h;simp [g14_E,Prod.ext_iff] at h ⊢;simp [h]) (y0,y1,y2)
/-! slices.IndexFunc[[]int64,int64] -/
def g1l1_cb:TC:=(sq [bn 9 .lss (.t 8) (.t 7)] [0,1,7,8,9] (.seq (.cond (.t 9) .skip (.keep (kp [] [] 0) (.exit 0))) (.trim [0,1,7,8] (.seq (.block 1 (sq [mo 10 8,mo 5 10] [0,1,5,7,8] (sq [mo 11 1,mo 12 0,mo 13 5,ia 14 1 12 13,ld 15 14,oo 16 (.callv (.t 11) [.t 15])] [0,1,5,7,8,16] (.cond (.t 16) (.seq (.ops [mo 17 5,mo 4 17]) (.keep (kp [(4,0)] [] 0) .ret)) .skip)))) (.trim [0,1,7,8] (.after (.ops [bn 18 .add (.t 8) (ki 1),mo 8 18]) (kp [(0,0),(1,0),(7,0),(8,0)] [] 0)))))))
def g1l1_c:TC:=.loop [0,1,7,8] g1l1_cb
def g1_tf:TFn:=⟨(sq [mk 4 (ki 0)] [0,1] (.seq (sq [mo 6 0,le 7 6,mk 8 (ki 0)] [0,1,7,8] (.block 0 (.keep (kp [(0,0),(1,0),(7,0),(8,0)] [] 0) g1l1_c))) (.trim [] (.seq (.ops [mk 4 (ki (-1))]) (.keep (kp [(4,0)] [] 0) .ret))))),[.t 4]⟩
abbrev g1_S:=Sys.on [(143,g14_r)] []
@[reducible,simp] def g1l1_F:((Unit) ⊕ (Int))→Out:=(Sum.elim (fun t=>(.ext 0,[],[])) (fun t=>(.ret,[(4,(.int .i64 t))],[])))
def slices_IndexFunc_int64_int64__allWithin_c1_l1_b (v1:List Int) (v2:Int) (v3:Int) (v4:Int) (v5:Int):Option ((Int) ⊕ ((Unit) ⊕ (Int))):=if v5 < v4 then if 0≤v5 then (v1[(v5).toNat]?).bind fun x6=>(impl_allWithin_c1 x6 v2 v3).bind fun r7=>if r7=true then some (.inr (.inr v5)) else some (.inl ((IntKind.i64.wrap (v5+1)))) else none else some (.inr (.inl ()))
theorem g1l1_b_eq  (v1:List Int) (v2:Int) (v3:Int) (v4:Int) (v5:Int):X g1_S g1l1_cb (keepEnv [0,1,7,8] [(0,(.vs (rows v1))),(1,(.fn 143 [] [(.vp [(.int .i64 v2)]),(.vp [(.int .i64 v3)])])),(7,(.int .i64 v4)),(8,(.int .i64 v5))]) []=(slices_IndexFunc_int64_int64__allWithin_c1_l1_b v1 v2 v3 v4 v5).map (Sum.elim (fun s=>(TX.nrm,[(0,(.vs (rows v1))),(1,(.fn 143 [] [(.vp [(.int .i64 v2)]),(.vp [(.int .i64 v3)])])),(7,(.int .i64 v4)),(8,(.int .i64 s))],[])) g1l1_F):=by
  simp (maxSteps:=2000000) (maxDischargeDepth:=8) -implicitDefEqProofs [g1l1_cb,slices_IndexFunc_int64_int64__allWithin_c1_l1_b] <;> (try simp only [map_to_bind,some_elim,g1l1_F])
def slices_IndexFunc_int64_int64__allWithin_c1_l1 (v1:List Int) (v2:Int) (v3:Int) (v4:Int) (s:Int):Option ((Unit) ⊕ (Int)):=loopO (fun s=>slices_IndexFunc_int64_int64__allWithin_c1_l1_b v1 v2 v3 v4 s) s
@[simp] theorem g1l1_eq (y0 y1 y2 y3 y4):X g1_S g1l1_c [(0,(.vs (rows y0))),(1,(.fn 143 [] [(.vp [(.int .i64 y1)]),(.vp [(.int .i64 y2)])])),(7,(.int .i64 y3)),(8,(.int .i64 y4))] []=(slices_IndexFunc_int64_int64__allWithin_c1_l1 y0 y1 y2 y3 y4).map g1l1_F:=by
  exact loop_X _ _ _ _ (by intro r;first | (simp;done) | (rcases r with r | r <;> simp;done) | (rcases r with r | r | r <;> simp;done) | (rcases r with r | r | r | r <;> simp)) (fun s=>g1l1_b_eq  y0 y1 y2 y3 s) y4
def slices_IndexFunc_int64_int64__allWithin_c1 (a_s:List Int) (a_f:Int) (a_f':Int):Option (Int):=(slices_IndexFunc_int64_int64__allWithin_c1_l1 a_s a_f a_f' ((a_s.length:Int)) 0).bind fun r8=>Sum.elim (fun u9=>some ((-1))) (fun u10=>some u10) r8
@[simp] def g1_O:Int→TV×List Blk:=fun r=>((.int .i64 r),[])
def g1_E (a:List Int×Int×Int):List TV:=[(.vs (rows a.1)),(.fn 143 [] [(.vp [(.int .i64 a.2.1)]),(.vp [(.int .i64 a.2.2)])])]
theorem g1_run (a_s:List Int) (a_f:Int) (a_f':Int) :callFn (X g1_S) g1_tf (g1_E (a_s,a_f,a_f')) []=(slices_IndexFunc_int64_int64__allWithin_c1 a_s a_f a_f').map g1_O:=by
  rw [callFn_eq]
  simp (maxSteps:=2000000) (maxDischargeDepth:=8) -implicitDefEqProofs [g1_tf,slices_IndexFunc_int64_int64__allWithin_c1,g1_E] <;> (try simp only [map_to_bind,some_elim,g1_O])
def g1_r:Rule:=RlO g1_E (fun a=>slices_IndexFunc_int64_int64__allWithin_c1 a.1 a.2.1 a.2.2) g1_O
theorem g1_ok:RuleOk Tryd.prog 160 g1_r:=ok_rlo (S:=g1_S) (tf:=g1_tf) (SysOk.on ⟨g14_ok,trivial⟩ trivial) (trE_ok (ks:=[[0,1,7,8]]) Tryd.func160 (by kernel_rfl)) fun a=>g1_run a.1 a.2.1 a.2.2
@[simp] theorem g1_app (y0 y1 y2):g1_r [(.vs (rows y0)),(.fn 143 [] [(.vp [(.int .i64 y1)]),(.vp [(.int .i64 y2)])])]=(slices_IndexFunc_int64_int64__allWithin_c1 y0 y1 y2).map g1_O :=
  RlO_app (enc:=g1_E) (by intro a b h;simp [g1_E,Prod.ext_iff] at h ⊢;simp [h]) (y0,y1,y2)
/-! slices.ContainsFunc[[]int64,int64] -/
def g0_tf:TFn:=⟨(sq [mk 4 (kb false)] [0,1] (.seq (.ops [mo 5 0,mo 6 1,ca 7 160 [.t 5,.t 6],bn 8 .geq (.t 7) (ki 0),mo 4 8]) (.keep (kp [(4,0)] [] 0) .ret))),[.t 4]⟩
abbrev g0_S:=Sys.on [(160,g1_r)] []
def slices_ContainsFunc_int64_int64__allWithin_c1 (a_s:List Int) (a_f:Int) (a_f':Int):Option (Bool):=(slices_IndexFunc_int64_int64__allWithin_c1 a_s a_f a_f').bind fun r1=>some ((decide (r1 ≥ 0)))
@[simp] def g0_O:Bool→TV×List Blk:=fun r=>((.bool r),[])
def g0_E (a:List Int×Int×Int):List TV:=[(.vs (rows a.1)),(.fn 143 [] [(.vp [(.int .i64 a.2.1)]),(.vp [(.int .i64 a.2.2)])])]
theorem g0_run (a_s:List Int) (a_f:Int) (a_f':Int) :callFn (X g0_S) g0_tf (g0_E (a_s,a_f,a_f')) []=(slices_ContainsFunc_int64_int64__allWithin_c1 a_s a_f a_f').map g0_O:=by
  rw [callFn_eq]
  simp (maxSteps:=2000000) (maxDischargeDepth:=8) -implicitDefEqProofs [g0_tf,slices_ContainsFunc_int64_int64__allWithin_c1,g0_E] <;> (try simp only [map_to_bind,some_elim,g0_O])
def g0_r:Rule:=RlO g0_E (fun a=>slices_ContainsFunc_int64_int64__allWithin_c1 a.1 a.2.1 a.2.2) g0_O
theorem g0_ok:RuleOk Tryd.prog 142 g0_r:=ok_rlo (S:=g0_S) (tf:=g0_tf) (SysOk.on ⟨g1_ok,trivial⟩ trivial) (trE_ok (ks:=[]) Tryd.func142 (by kernel_rfl)) fun a=>g0_run a.1 a.2.1 a.2.2
@[simp] theorem g0_app (y0 y1 y2):g0_r [(.vs (rows y0)),(.fn 143 [] [(.vp [(.int .i64 y1)]),(.vp [(.int .i64 y2)])])]=(slices_ContainsFunc_int64_int64__allWithin_c1 y0 y1 y2).map g0_O :=
  RlO_app (enc:=g0_E) (by intro a b h;simp [g0_E,Prod.ext_iff] at h ⊢;simp [h]) (y0,y1,y2)
/-! impl.allWithin -/
def g24_tf:TFn:=⟨(sq [bx 4 1,bx 5 2,mk 6 (kb false)] [0,4,5] (.seq (.ops [mo 7 0,oo 8 (.mkfn 143 [] [.t 4,.t 5]),ca 9 142 [.t 7,.t 8],nt 10 9,mo 6 10]) (.keep (kp [(6,0)] [] 0) .ret))),[.t 6]⟩
abbrev g24_S:=Sys.on [(142,g0_r)] []
def impl_allWithin (a_list:List Int) (a_low:Int) (a_high:Int):Option (Bool):=(slices_ContainsFunc_int64_int64__allWithin_c1 a_list a_low a_high).bind fun r1=>some ((!r1))
@[simp] def g24_O:Bool→TV×List Blk:=fun r=>((.bool r),[])
def g24_E (a:List Int×Int×Int):List TV:=[(.vs (rows a.1)),(.int .i64 a.2.1),(.int .i64 a.2.2)]
theorem g24_run (a_list:List Int) (a_low:Int) (a_high:Int) :callFn (X g24_S) g24_tf (g24_E (a_list,a_low,a_high)) []=(impl_allWithin a_list a_low a_high).map g24_O:=by
  rw [callFn_eq]
  simp (maxSteps:=2000000) (maxDischargeDepth:=8) -implicitDefEqProofs [g24_tf,impl_allWithin,g24_E] <;> (try simp only [map_to_bind,some_elim,g24_O])
def g24_r:Rule:=RlO g24_E (fun a=>impl_allWithin a.1 a.2.1 a.2.2) g24_O
theorem g24_ok:RuleOk Tryd.prog 108 g24_r:=ok_rlo (S:=g24_S) (tf:=g24_tf) (SysOk.on ⟨g0_ok,trivial⟩ trivial) (trE_ok (ks:=[]) Tryd.func108 (by kernel_rfl)) fun a=>g24_run a.1 a.2.1 a.2.2
@[simp] theorem g24_app (y0 y1 y2):g24_r [(.vs (rows y0)),(.int .i64 y1),(.int .i64 y2)]=(impl_allWithin y0 y1 y2).map g24_O :=
  RlO_app (enc:=g24_E) (by intro a b h;simp [g24_E,Prod.ext_iff] at h ⊢;simp [h]) (y0,y1,y2)
/-! impl.product -/
def g33l1_cb:TC:=(sq [bn 9 .lss (.t 8) (.t 7)] [3,6,7,8,9] (.seq (.cond (.t 9) .skip (.keep (kp [(3,0)] [] 0) (.exit 0))) (.trim [3,6,7,8] (.seq (.block 1 (sq [ia 10 1 6 8,ld 11 10,mo 5 11] [3,5,6,7,8] (.ops [mo 12 3,mo 13 5,bn 14 .mul (.t 12) (.t 13),mo 3 14]))) (.trim [3,6,7,8] (.after (.ops [bn 15 .add (.t 8) (ki 1),mo 8 15]) (kp [(3,0),(6,0),(7,0),(8,0)] [] 0)))))))
def g33l1_c:TC:=.loop [3,6,7,8] g33l1_cb
def g33_tf:TFn:=⟨(sq [mk 2 (ki 0)] [0] (sq [mk 3 (ki 1)] [0,3] (.seq (sq [mo 6 0,le 7 6,mk 8 (ki 0)] [3,6,7,8] (.block 0 (.keep (kp [(3,0),(6,0),(7,0),(8,0)] [] 0) g33l1_c))) (.trim [3] (.seq (.ops [mo 16 3,mo 2 16]) (.keep (kp [(2,0)] [] 0) .ret)))))),[.t 2]⟩
abbrev g33_S:=Sys.on [] []
@[reducible,simp] def g33l1_F:Int→Out:=(fun t=>(.ext 0,[(3,(.int .i64 t))],[]))
def impl_product_l1_b (v2:List Int) (v3:Int) (v1:Int) (v4:Int):Option ((Int×Int) ⊕ (Int)):=if v4 < v3 then if 0≤v4 then (v2[(v4).toNat]?).bind fun x5=>some (.inl ((IntKind.i64.wrap (v1 * x5)),(IntKind.i64.wrap (v4+1)))) else none else some (.inr v1)
theorem g33l1_b_eq  (v2:List Int) (v3:Int) (v1:Int) (v4:Int):X g33_S g33l1_cb (keepEnv [3,6,7,8] [(3,(.int .i64 v1)),(6,(.vs (rows v2))),(7,(.int .i64 v3)),(8,(.int .i64 v4))]) []=(impl_product_l1_b v2 v3 v1 v4).map (Sum.elim (fun s=>(TX.nrm,[(3,(.int .i64 s.1)),(6,(.vs (rows v2))),(7,(.int .i64 v3)),(8,(.int .i64 s.2))],[])) g33l1_F):=by
  simp (maxSteps:=2000000) (maxDischargeDepth:=8) -implicitDefEqProofs [g33l1_cb,impl_product_l1_b] <;> (try simp only [map_to_bind,some_elim,g33l1_F])
def impl_product_l1 (v2:List Int) (v3:Int) (s:Int×Int):Option (Int):=loopO (fun s=>impl_product_l1_b v2 v3 s.1 s.2) s
@[simp] theorem g33l1_eq (y0 y1 y2 y3):X g33_S g33l1_c [(3,(.int .i64 y0)),(6,(.vs (rows y1))),(7,(.int .i64 y2)),(8,(.int .i64 y3))] []=(impl_product_l1 y1 y2 (y0,y3)).map g33l1_F:=by
  exact loop_X _ _ _ _ (by intro r;first | (simp;done) | (rcases r with r | r <;> simp;done) | (rcases r with r | r | r <;> simp;done) | (rcases r with r | r | r | r <;> simp)) (fun s=>g33l1_b_eq  y1 y2 s.1 s.2) (y0,y3)
def impl_product (a_list:List Int):Option (Int):=(impl_product_l1 a_list ((a_list.length:Int)) ((1,0))).bind fun r6=>some r6
@[simp] def g33_O:Int→TV×List Blk:=fun r=>((.int .i64 r),[])
def g33_E (a:List Int):List TV:=[(.vs (rows a))]
theorem g33_run (a_list:List Int) :callFn (X g33_S) g33_tf (g33_E a_list) []=(impl_product a_list).map g33_O:=by
  rw [callFn_eq]
  simp (maxSteps:=2000000) (maxDischargeDepth:=8) -implicitDefEqProofs [g33_tf,impl_product,g33_E] <;> (try simp only [map_to_bind,some_elim,g33_O])
def g33_r:Rule:=RlO g33_E (fun a=>impl_product a) g33_O
theorem g33_ok:RuleOk Tryd.prog 107 g33_r:=ok_rlo (S:=g33_S) (tf:=g33_tf) (SysOk.on trivial trivial) (trE_ok (ks:=[[3,6,7,8]]) Tryd.func107 (by kernel_rfl)) fun a=>g33_run a
@[simp] theorem g33_app (y0):g33_r [(.vs (rows y0))]=(impl_product y0).map g33_O :=
  RlO_app (enc:=g33_E) (by intro a b h;simp [g33_E,Prod.ext_iff] at h ⊢;simp [h]) y0
/-! impl.ValidDims -/
def g25_tf:TFn:=⟨(sq [mk 2 (kb false)] [0] (.seq (.after (.ops [mo 3 0,le 4 3,bn 5 .leq (.t 4) (ki 3),mo 6 5,⟨(some 7),(some (6,true)),(.mv (.t 0))⟩,⟨(some 8),(some (6,true)),(.call 108 [.t 7,ki 0,ki 40])⟩,pk 9 (.t 6) (.t 8) (kb false),mo 10 9,⟨(some 11),(some (10,true)),(.mv (.t 0))⟩,⟨(some 12),(some (10,true)),(.call 107 [.t 11])⟩,⟨(some 13),(some (10,true)),(.bin .num .leq (.t 12) (ki 600))⟩,pk 14 (.t 10) (.t 13) (kb false),mo 2 14]) (kp [(2,0)] [] 0)) (.keep (kp [(2,0)] [] 0) .ret))),[.t 2]⟩
abbrev g25_S:=Sys.on [(108,g24_r),(107,g33_r)] []
def impl_ValidDims (a_dims:List Int):Option (Bool):=if (a_dims.length:Int)≤3 then (impl_allWithin a_dims 0 40).bind fun r1=>if r1=true then (impl_product a_dims).bind fun r2=>some ((decide (r2≤600))) else some false else some false
@[simp] def g25_O:Bool→TV×List Blk:=fun r=>((.bool r),[])
def g25_E (a:List Int):List TV:=[(.vs (rows a))]
theorem g25_run (a_dims:List Int) :callFn (X g25_S) g25_tf (g25_E a_dims) []=(impl_ValidDims a_dims).map g25_O:=by
  rw [callFn_eq]
  simp (maxSteps:=2000000) (maxDischargeDepth:=8) -implicitDefEqProofs [g25_tf,impl_ValidDims,g25_E] <;> (try simp only [map_to_bind,some_elim,g25_O])
def g25_r:Rule:=RlO g25_E (fun a=>impl_ValidDims a) g25_O
theorem g25_ok:RuleOk Tryd.prog 90 g25_r:=ok_rlo (S:=g25_S) (tf:=g25_tf) (SysOk.on ⟨g24_ok,g33_ok,trivial⟩ trivial) (trE_ok (ks:=[]) Tryd.func90 (by kernel_rfl)) fun a=>g25_run a
@[simp] theorem g25_app (y0):g25_r [(.vs (rows y0))]=(impl_ValidDims y0).map g25_O :=
  RlO_app (enc:=g25_E) (by intro a b h;simp [g25_E,Prod.ext_iff] at h ⊢;simp [h]) y0
/-! impl.ValidSpace -/
def g17l1_cb:TC:=(sq [bn 22 .lss (.t 21) (.t 20)] [1,19,20,21,22] (.seq (.cond (.t 22) .skip (.keep (kp [] [] 0) (.exit 0))) (.trim [1,19,20,21] (.seq (.block 1 (sq [mo 23 21,ia 24 1 19 21,ld 25 24,mo 3 23,mo 4 25] [1,3,4,19,20,21] (sq [mo 26 4,bn 27 .neq (.t 26) (ki (-1)),mo 28 27,⟨(some 29),(some (28,true)),(.mv (.t 4))⟩,⟨(some 30),(some (28,true)),(.faddr 0 (.t 1))⟩,⟨(some 31),(some (28,true)),(.load none (.t 30))⟩,⟨(some 32),(some (28,true)),(.mv (.t 3))⟩,⟨(some 33),(some (28,true)),(.iaddr 1 (.t 31) (.t 32))⟩,⟨(some 34),(some (28,true)),(.load none (.t 33))⟩,⟨(some 35),(some (28,true)),(.call 91 [.t 29,.t 34,ki 40])⟩,⟨(some 36),(some (28,true)),(.un .not (.t 35))⟩,pk 37 (.t 28) (.t 36) (kb false)] [1,19,20,21,37] (.cond (.t 37) (.seq (.ops [mk 2 (kb false)]) (.keep (kp [(2,0)] [] 0) .ret)) (.keep (kp [(1,0),(19,0),(20,0),(21,0)] [(0,0)] 0) .skip))))) (.trim [1,19,20,21] (.after (.ops [bn 38 .add (.t 21) (ki 1),mo 21 38]) (kp [(1,0),(19,0),(20,0),(21,0)] [(0,0)] 0)))))))
def g17l1_c:TC:=.loop [1,19,20,21] g17l1_cb
def g17_tf:TFn:=⟨(sq [bx 1 0,mk 2 (kb false)] [1] (.seq (sq [fa 5 0 1,ld 6 5,ca 7 90 [.t 6],nt 8 7,mo 9 8,⟨(some 10),(some (9,false)),(.faddr 1 (.t 1))⟩,⟨(some 11),(some (9,false)),(.load none (.t 10))⟩,⟨(some 12),(some (9,false)),(.len false (.t 11))⟩,⟨(some 13),(some (9,false)),(.faddr 0 (.t 1))⟩,⟨(some 14),(some (9,false)),(.load none (.t 13))⟩,⟨(some 15),(some (9,false)),(.len false (.t 14))⟩,⟨(some 16),(some (9,false)),(.bin .num .neq (.t 12) (.t 15))⟩,pk 17 (.t 9) (kb true) (.t 16)] [1,17] (.cond (.t 17) (.seq (.ops [mk 2 (kb false)]) (.keep (kp [(2,0)] [] 0) .ret)) .skip)) (.trim [1] (.seq (sq [fa 18 1 1,ld 19 18,le 20 19,mk 21 (ki 0)] [1,19,20,21] (.block 0 (.keep (kp [(1,0),(19,0),(20,0),(21,0)] [(0,0)] 0) g17l1_c))) (.trim [] (.seq (.ops [mk 2 (kb true)]) (.keep (kp [(2,0)] [] 0) .ret))))))),[.t 2]⟩
abbrev g17_S:=Sys.on [(90,g25_r),(91,g37_r)] []
@[reducible,simp] def g17l1_F:((Unit) ⊕ (Bool))→Out:=(Sum.elim (fun t=>(.ext 0,[],[])) (fun t=>(.ret,[(2,(.bool t))],[])))
def impl_ValidSpace_l1_b (v2:List Int×List Int) (v3:List Int) (v4:Int) (v5:Int):Option ((Int) ⊕ ((Unit) ⊕ (Bool))):=if v5 < v4 then if 0≤v5 then (v3[(v5).toNat]?).bind fun x6=>if ¬(x6=(-1)) then if 0≤v5 then (v2.1[(v5).toNat]?).bind fun x7=>(impl_within x6 x7 40).bind fun r8=>if ¬(r8=true) then some (.inr (.inr false)) else some (.inl ((IntKind.i64.wrap (v5+1)))) else none else some (.inl ((IntKind.i64.wrap (v5+1)))) else none else some (.inr (.inl ()))
theorem g17l1_b_eq  (v2:List Int×List Int) (v3:List Int) (v4:Int) (v5:Int):X g17_S g17l1_cb (keepEnv [1,19,20,21] [(1,(.ptr 0 0 0)),(19,(.vs (rows v3))),(20,(.int .i64 v4)),(21,(.int .i64 v5))]) [(.live 2 [[(.vs (rows v2.1)),(.vs (rows v2.2))]])]=(impl_ValidSpace_l1_b v2 v3 v4 v5).map (Sum.elim (fun s=>(TX.nrm,[(1,(.ptr 0 0 0)),(19,(.vs (rows v3))),(20,(.int .i64 v4)),(21,(.int .i64 s))],[(.live 2 [[(.vs (rows v2.1)),(.vs (rows v2.2))]])])) g17l1_F):=by
  simp (maxSteps:=2000000) (maxDischargeDepth:=8) -implicitDefEqProofs [g17l1_cb,impl_ValidSpace_l1_b] <;> (try simp only [map_to_bind,some_elim,g17l1_F])
def impl_ValidSpace_l1 (v2:List Int×List Int) (v3:List Int) (v4:Int) (s:Int):Option ((Unit) ⊕ (Bool)):=loopO (fun s=>impl_ValidSpace_l1_b v2 v3 v4 s) s
@[simp] theorem g17l1_eq (y0 y1 y2 y3 y4):X g17_S g17l1_c [(1,(.ptr 0 0 0)),(19,(.vs (rows y2))),(20,(.int .i64 y3)),(21,(.int .i64 y4))] [(.live 2 [[(.vs (rows y0)),(.vs (rows y1))]])]=(impl_ValidSpace_l1 ((y0,y1)) y2 y3 y4).map g17l1_F:=by
  exact loop_X _ _ _ _ (by intro r;first | (simp;done) | (rcases r with r | r <;> simp;done) | (rcases r with r | r | r <;> simp;done) | (rcases r with r | r | r | r <;> simp)) (fun s=>g17l1_b_eq  ((y0,y1)) y2 y3 s) y4
def impl_ValidSpace (a_s:List Int×List Int):Option (Bool):=(impl_ValidDims a_s.1).bind fun r1=>if ¬(r1=true) then some false else if ¬((a_s.2.length:Int)=(a_s.1.length:Int)) then some false else (impl_ValidSpace_l1 a_s a_s.2 ((a_s.2.length:Int)) 0).bind fun r9=>Sum.elim (fun u10=>some true) (fun u11=>some u11) r9
@[simp] def g17_O:Bool→TV×List Blk:=fun r=>((.bool r),[])
def g17_E (a:(List Int×List Int)):List TV:=[(.agg [(.vs (rows a.1)),(.vs (rows a.2))])]
theorem g17_run (a_s:List Int×List Int) :callFn (X g17_S) g17_tf (g17_E a_s) []=(impl_ValidSpace a_s).map g17_O:=by
  rw [callFn_eq]
  simp (maxSteps:=2000000) (maxDischargeDepth:=8) -implicitDefEqProofs [g17_tf,impl_ValidSpace,g17_E] <;> (try simp only [map_to_bind,some_elim,g17_O])
def g17_r:Rule:=RlO g17_E (fun a=>impl_ValidSpace a) g17_O
theorem g17_ok:RuleOk Tryd.prog 47 g17_r:=ok_rlo (S:=g17_S) (tf:=g17_tf) (SysOk.on ⟨g25_ok,g37_ok,trivial⟩ trivial) (trE_ok (ks:=[[1,19,20,21]]) Tryd.func47 (by kernel_rfl)) fun a=>g17_run a
@[simp] theorem g17_app (y0 y1):g17_r [(.agg [(.vs (rows y0)),(.vs (rows y1))])]=(impl_ValidSpace ((y0,y1))).map g17_O :=
  RlO_app (enc:=g17_E) (by intro a b h;simp [g17_E,Prod.ext_iff] at h ⊢;simp [h]) ((y0,y1))
end
end Go.Proofs.TM
