/- Functions of the program, as functions of their data: written by program. -/
import Derived.Test.YtljphigfgffeeaaGreatNI2
namespace Go.Proofs.TM
open Go Go.Proofs
set_option linter.unusedVariables false
set_option linter.unusedSimpArgs false
set_option maxHeartbeats 1000000
attribute [-simp] Option.map_bind strV_some
attribute [simp] guardOn_bool sA_bslice Function.comp_def
noncomputable section
/-! (*strings.Builder).String -/
def g13_tf:TFn:=⟨(sq [mk 2 (.c (.str []))] [0] (.seq (.draw [([],mo 3 0),([0],nk 4 3),([0,1],fa 5 1 4),([0,1,2],ld 6 5),([0,1,2,3],oo 7 (.sdata (.t 6))),([],mo 8 0),([5],nk 9 8),([5,6],fa 10 1 9),([5,6,7],ld 11 10),([5,6,7,8],le 12 11)] [oo 13 (.ustr 5 (.t 7) (.t 12)),mo 2 13]) (.keep (kp [(2,0)] [(0,4)] 1) .ret))),[.t 2]⟩
abbrev g13_S:=Sys.on [] []
def strings_Builder_String_of5 (a1:List Bt):Option (Str):=(strB a1).bind fun s1=>some s1
@[simp] def g13_O:Str → TV × List Blk:=fun r=>((.str r),[.dead])
abbrev g13_T:=List Bt
def g13_E (a:g13_T):List TV:=[(.ptr 0 0 0)]
def g13_B (a:g13_T):List Blk:=[(.live 2 [[(.bself 0 152),(owb 1 a.length 5)]]),(ob 1 a)]
theorem g13_run (a1:List Bt) :callFn (X g13_S) g13_tf (g13_E a1) (g13_B a1) = (strings_Builder_String_of5 a1).map g13_O:=by
  rw [callFn_eq]
  simp (maxSteps:=2000000) (maxDischargeDepth:=8) -implicitDefEqProofs [g13_tf,strings_Builder_String_of5,g13_E,g13_B] <;> (try simp only [map_to_bind,some_elim,g13_O])
def g13_r:MRule:=RmO g13_E g13_B (fun a=>strings_Builder_String_of5 a) g13_O
theorem g13_ok:MRuleOk Tryz.prog 112 1 g13_r:=ok_rmo (S:=g13_S) (tf:=g13_tf) (SysOk.on trivial trivial) (trE_ok (ks:=[[10]]) Tryz.func112 (by kernel_rfl)) (by rfl) (fun _=>by simp [g13_B]) (fun _=>by simp) fun a=>g13_run a
@[simp] theorem g13_app (y0:List Bt){n1:Nat}(h1:n1 = y0.length):g13_r [(.ptr 0 0 0)] [(.live 2 [[(.bself 0 152),(owb 1 n1 5)]]),(ob 1 y0)] = (strings_Builder_String_of5 y0).map g13_O:=by
  subst h1
  exact RmO_app (enc:=g13_E) (encB:=g13_B) (by intro a b h h2; simp [g13_E,g13_B,Prod.ext_iff] at h h2 ⊢; simp [h,h2]) y0
/-! impl.putPairs -/
def g74l1_cb:TC:=(sq [bn 9 .lss (.t 8) (.t 7)] [3,6,7,8,9] (.seq (.cond (.t 9) .skip (.keep (kp [(3,0)] [(0,0),(1,0)] 0) (.exit 0))) (.trim [3,6,7,8] (.seq (.block 1 (sq [ia 10 1 6 8,ld 11 10,mo 5 11] [3,5,6,7,8] (.ops [mo 12 5,ca 13 111 [.t 12,ki 2],oo 14 (.callM 110 0 [0,1] [.t 3,.t 13])]))) (.trim [3,6,7,8] (.after (.ops [bn 15 .add (.t 8) (ki 1),mo 8 15]) (kp [(3,0),(6,0),(7,0),(8,0)] [(0,0),(2,0)] 0)))))))
def g74l1_c:TC:=.loop [3,6,7,8] g74l1_cb
def g74_tf:TFn:=⟨(sq [mk 2 (.c (.str []))] [0] (sq [oo 3 (.allocB 152)] [0,3] (.seq (sq [mo 6 0,le 7 6,mk 8 (ki 0)] [3,6,7,8] (.block 0 (.keep (kp [(3,0),(6,0),(7,0),(8,0)] [(0,0),(1,0)] 0) g74l1_c))) (.trim [3] (.seq (.ops [oo 16 (.callM 112 0 [0,1] [.t 3]),mo 2 16]) (.keep (kp [(2,0)] [] 0) .ret)))))),[.t 2]⟩
abbrev g74_S:=Sys.on [(111,g73_r)] [((110,0),(1,g11_r)),((112,0),(1,g13_r))]
@[reducible,simp] def g74l1_F:(List Bt) → Out:=(fun t=>(.ext 0,[(3,(.ptr 0 0 0))],[(.live 2 [[(.bself 0 152),(owb 1 t.length 5)]]),(ob 1 t)]))
def impl_putPairs_l1_b (v2:List Int) (v3:Int) (v1:List Bt) (v4:Int):Option ((List Bt × Int) ⊕ (List Bt)):=if v4 < v3 then if 0 ≤ v4 then (v2[(v4).toNat]?).bind fun x5=>(impl_putBytes x5 2).bind fun r6=>(strings_Builder_WriteString_o0d v1 r6).bind fun r7=>some (.inl (r7.1,(IntKind.i64.wrap (v4 + 1)))) else none else some (.inr v1)
theorem g74l1_b_eq  (v2:List Int) (v3:Int) (v1:List Bt) (v4:Int):X g74_S g74l1_cb (keepEnv [3,6,7,8] [(3,(.ptr 0 0 0)),(6,(.vs (rows v2))),(7,(.int .i64 v3)),(8,(.int .i64 v4))]) [(.live 2 [[(.bself 0 152),(owb 1 v1.length 5)]]),(ob 1 v1)] = (impl_putPairs_l1_b v2 v3 v1 v4).map (Sum.elim (fun s=>(TX.nrm,[(3,(.ptr 0 0 0)),(6,(.vs (rows v2))),(7,(.int .i64 v3)),(8,(.int .i64 s.2))],[(.live 2 [[(.bself 0 152),(owb 1 s.1.length 5)]]),(ob 1 s.1)])) g74l1_F):=by
  simp (maxSteps:=2000000) (maxDischargeDepth:=8) -implicitDefEqProofs [g74l1_cb,impl_putPairs_l1_b] <;> (try simp only [map_to_bind,some_elim,g74l1_F])
def impl_putPairs_l1 (v2:List Int) (v3:Int) (s:List Bt × Int):Option (List Bt):=loopO (fun s=>impl_putPairs_l1_b v2 v3 s.1 s.2) s
@[simp] theorem g74l1_eq (y0 y1 y2 y3):X g74_S g74l1_c [(3,(.ptr 0 0 0)),(6,(.vs (rows y1))),(7,(.int .i64 y2)),(8,(.int .i64 y3))] [(.live 2 [[(.bself 0 152),(owb 1 y0.length 5)]]),(ob 1 y0)] = (impl_putPairs_l1 y1 y2 (y0,y3)).map g74l1_F:=by
  exact loop_X _ _ _ _ (by intro r; first | (simp; done) | (rcases r with r | r <;> simp; done) | (rcases r with r | r | r <;> simp; done) | (rcases r with r | r | r | r <;> simp)) (fun s=>g74l1_b_eq  y1 y2 s.1 s.2) (y0,y3)
def impl_putPairs (a_list:List Int):Option (Str):=(impl_putPairs_l1 a_list ((a_list.length:Int)) ((nilB,0))).bind fun r8=>(strings_Builder_String_of5 r8).bind fun r9=>some r9
@[simp] def g74_O:Str → TV × List Blk:=fun r=>((.str r),[])
def g74_E (a:List Int):List TV:=[(.vs (rows a))]
theorem g74_run (a_list:List Int) :callFn (X g74_S) g74_tf (g74_E a_list) [] = (impl_putPairs a_list).map g74_O:=by
  rw [callFn_eq]
  simp (maxSteps:=2000000) (maxDischargeDepth:=8) -implicitDefEqProofs [g74_tf,impl_putPairs,g74_E] <;> (try simp only [map_to_bind,some_elim,g74_O])
def g74_r:Rule:=RlO g74_E (fun a=>impl_putPairs a) g74_O
theorem g74_ok:RuleOk Tryz.prog 126 g74_r:=ok_rlo (S:=g74_S) (tf:=g74_tf) (SysOk.on ⟨g73_ok,trivial⟩ ⟨g11_ok,g13_ok,trivial⟩) (trE_ok (ks:=[[3,6,7,8]]) Tryz.func126 (by kernel_rfl)) fun a=>g74_run a
@[simp] theorem g74_app (y0):g74_r [(.vs (rows y0))] = (impl_putPairs y0).map g74_O :=
  RlO_app (enc:=g74_E) (by intro a b h; simp [g74_E,Prod.ext_iff] at h ⊢; simp [h]) y0
/-! strings.Repeat -/
noncomputable def strings_Repeat (s:Str) (n:Int):Option Str:=repS s n
noncomputable def strings_Repeat_r:Rule:=repS_r
@[simp] theorem strings_Repeat_app (y0 y1):strings_Repeat_r [.str y0,.int .i64 y1] = (strings_Repeat y0 y1).map (fun r=>(.str r,[])):=repS_app y0 y1
/-! impl.zeros -/
def g119_tf:TFn:=⟨(sq [mk 2 (.c (.str []))] [0] (.seq (.ops [mo 3 0,oo 4 (.call 154 [(.c (.str [0])),.t 3]),mo 2 4]) (.keep (kp [(2,0)] [] 0) .ret))),[.t 2]⟩
abbrev g119_S:=Sys.on [(154,strings_Repeat_r)] []
def impl_zeros (a_n:Int):Option (Str):=(strings_Repeat (([0]:Str)) a_n).bind fun r1=>some r1
@[simp] def g119_O:Str → TV × List Blk:=fun r=>((.str r),[])
def g119_E (a:Int):List TV:=[(.int .i64 a)]
theorem g119_run (a_n:Int) :callFn (X g119_S) g119_tf (g119_E a_n) [] = (impl_zeros a_n).map g119_O:=by
  rw [callFn_eq]
  simp (maxSteps:=2000000) (maxDischargeDepth:=8) -implicitDefEqProofs [g119_tf,impl_zeros,g119_E] <;> (try simp only [map_to_bind,some_elim,g119_O])
def g119_r:Rule:=RlO g119_E (fun a=>impl_zeros a) g119_O
theorem g119_ok:RuleOk Tryz.prog 139 g119_r:=ok_rlo (S:=g119_S) (tf:=g119_tf) (SysOk.on ⟨strings_Repeat_ok,trivial⟩ trivial) (trE_ok (ks:=[]) Tryz.func139 (by kernel_rfl)) fun a=>g119_run a
@[simp] theorem g119_app (y0):g119_r [(.int .i64 y0)] = (impl_zeros y0).map g119_O :=
  RlO_app (enc:=g119_E) (by intro a b h; simp [g119_E,Prod.ext_iff] at h ⊢; simp [h]) y0
/-! impl.padded -/
def g110_tf:TFn:=⟨(sq [mk 4 (.c (.str []))] [0,1] (.seq (.ops [mo 5 0,mo 6 1,mo 7 0,oo 8 (.len true (.t 7)),bn 9 .sub (.t 6) (.t 8),ca 10 139 [.t 9],oo 11 (.bin .str .add (.t 5) (.t 10)),mo 4 11]) (.keep (kp [(4,0)] [] 0) .ret))),[.t 4]⟩
abbrev g110_S:=Sys.on [(139,g119_r)] []
def impl_padded (a_s:Str) (a_n:Int):Option (Str):=(impl_zeros ((IntKind.i64.wrap (a_n - ((a_s.length:Int)))))).bind fun r1=>if a_s.length + r1.length ≤ 9223372036854775807 then some ((a_s ++ r1)) else none
@[simp] def g110_O:Str → TV × List Blk:=fun r=>((.str r),[])
def g110_E (a:Str × Int):List TV:=[(.str a.1),(.int .i64 a.2)]
theorem g110_run (a_s:Str) (a_n:Int) :callFn (X g110_S) g110_tf (g110_E (a_s,a_n)) [] = (impl_padded a_s a_n).map g110_O:=by
  rw [callFn_eq]
  simp (maxSteps:=2000000) (maxDischargeDepth:=8) -implicitDefEqProofs [g110_tf,impl_padded,g110_E] <;> (try simp only [map_to_bind,some_elim,g110_O])
def g110_r:Rule:=RlO g110_E (fun a=>impl_padded a.1 a.2) g110_O
theorem g110_ok:RuleOk Tryz.prog 113 g110_r:=ok_rlo (S:=g110_S) (tf:=g110_tf) (SysOk.on ⟨g119_ok,trivial⟩ trivial) (trE_ok (ks:=[]) Tryz.func113 (by kernel_rfl)) fun a=>g110_run a.1 a.2
@[simp] theorem g110_app (y0 y1):g110_r [(.str y0),(.int .i64 y1)] = (impl_padded y0 y1).map g110_O :=
  RlO_app (enc:=g110_E) (by intro a b h; simp [g110_E,Prod.ext_iff] at h ⊢; simp [h]) (y0,y1)
/-! (impl.Node).encode -/
def g38l1_cb:TC:=(sq [bn 34 .lss (.t 33) (.t 32)] [3,31,32,33,34] (.seq (.cond (.t 34) .skip (.keep (kp [(3,0)] [] 0) (.exit 0))) (.trim [3,31,32,33] (.seq (.block 1 (sq [ia 35 4 31 33,ln 36 4 35,oo 5 (.alloc [(.int .i64 0),(.int .i64 0),(.int .i64 0),(.int .i64 0)]),⟨none,none,(.store 4 (.t 5) (.t 36))⟩] [3,5,31,32,33] (.draw [([],mo 37 3),([],fa 38 0 5),([1],ld 39 38),([],fa 40 1 5),([3],ld 41 40),([],fa 42 2 5),([5],ld 43 42),([1,2,3,4,5,6],oo 44 (.bslice [(.int .i64 0)] 3 [(0,(.t 39)),(1,(.t 41)),(2,(.t 43))])),([1,2,3,4,5,6,7],ca 45 126 [.t 44]),([],fa 46 3 5),([9],ld 47 46),([1,2,3,4,5,6,7,8,9,10],ca 48 111 [.t 47,ki 1]),([1,2,3,4,5,6,7,8,9,10,11],oo 49 (.bin .str .add (.t 45) (.t 48)))] [oo 50 (.bin .str .add (.t 37) (.t 49)),mo 3 50]))) (.trim [3,31,32,33] (.after (.ops [bn 51 .add (.t 33) (ki 1),mo 33 51]) (kp [(3,0),(31,0),(32,0),(33,0)] [] 0)))))))
def g38l1_c:TC:=.loop [3,31,32,33] g38l1_cb
def g38_tf:TFn:=⟨(sq [bx 1 0,mk 2 (.c (.str []))] [1] (.seq (sq [fa 6 0 1,ld 7 6,nt 8 7] [1,8] (.cond (.t 8) (.seq (.draw [([],ca 9 111 [ki 2,ki 1]),([],fa 10 2 1),([1],ld 11 10),([1,2],le 12 11),([0,1,2,3],ca 13 111 [.t 12,ki 1]),([0,1,2,3,4],oo 14 (.bin .str .add (.t 9) (.t 13))),([],fa 15 3 1),([6],ld 16 15),([0,1,2,3,4,6,7],ca 17 126 [.t 16]),([0,1,2,3,4,5,6,7,8],oo 18 (.bin .str .add (.t 14) (.t 17))),([],fa 19 2 1),([10],ld 20 19),([0,1,2,3,4,6,7,8,10,11],ca 21 126 [.t 20])] [oo 22 (.bin .str .add (.t 18) (.t 21)),ca 23 113 [.t 22,ki 64],mo 2 23]) (.keep (kp [(2,0)] [] 0) .ret)) .skip)) (.trim [1] (.seq (.draw [([],ca 24 111 [ki 1,ki 1]),([],fa 25 1 1),([1],ld 26 25),([1,2],le 27 26)] [ca 28 111 [.t 27,ki 1],oo 29 (.bin .str .add (.t 24) (.t 28)),mo 3 29]) (.trim [1,3] (.seq (sq [fa 30 1 1,ld 31 30,le 32 31,mk 33 (ki 0)] [3,31,32,33] (.block 0 (.keep (kp [(3,0),(31,0),(32,0),(33,0)] [] 0) g38l1_c))) (.trim [3] (.seq (.ops [mo 52 3,ca 53 113 [.t 52,ki 64],mo 2 53]) (.keep (kp [(2,0)] [] 0) .ret))))))))),[.t 2]⟩
abbrev g38_S:=Sys.on [(111,g73_r),(126,g74_r),(113,g110_r)] []
@[reducible,simp] def g38l1_F:Str → Out:=(fun t=>(.ext 0,[(3,(.str t))],[]))
def impl_Node_encode_l1_b (v9:List (Int × Int × Int × Int)) (v10:Int) (v8:Str) (v11:Int):Option ((Str × Int) ⊕ (Str)):=if v11 < v10 then if 0 ≤ v11 then (v9[(v11).toNat]?).bind fun x12=>(impl_putPairs ((lit [x12.1,x12.2.1,x12.2.2.1]:List Int))).bind fun r13=>(impl_putBytes x12.2.2.2 1).bind fun r14=>if r13.length + r14.length ≤ 9223372036854775807 then if v8.length + ((r13 ++ r14)).length ≤ 9223372036854775807 then some (.inl ((v8 ++ (r13 ++ r14)),(IntKind.i64.wrap (v11 + 1)))) else none else none else none else some (.inr v8)
theorem g38l1_b_eq  (v9:List (Int × Int × Int × Int)) (v10:Int) (v8:Str) (v11:Int):X g38_S g38l1_cb (keepEnv [3,31,32,33] [(3,(.str v8)),(31,(.vs (rows v9))),(32,(.int .i64 v10)),(33,(.int .i64 v11))]) [] = (impl_Node_encode_l1_b v9 v10 v8 v11).map (Sum.elim (fun s=>(TX.nrm,[(3,(.str s.1)),(31,(.vs (rows v9))),(32,(.int .i64 v10)),(33,(.int .i64 s.2))],[])) g38l1_F):=by
  simp (maxSteps:=2000000) (maxDischargeDepth:=8) -implicitDefEqProofs [g38l1_cb,impl_Node_encode_l1_b,bslV_lit (α:=Int) (zs:=[(.int .i64 0)])] <;> (try simp only [map_to_bind,some_elim,g38l1_F])
def impl_Node_encode_l1 (v9:List (Int × Int × Int × Int)) (v10:Int) (s:Str × Int):Option (Str):=loopO (fun s=>impl_Node_encode_l1_b v9 v10 s.1 s.2) s
@[simp] theorem g38l1_eq (y0 y1 y2 y3):X g38_S g38l1_c [(3,(.str y0)),(31,(.vs (rows y1))),(32,(.int .i64 y2)),(33,(.int .i64 y3))] [] = (impl_Node_encode_l1 y1 y2 (y0,y3)).map g38l1_F:=by
  exact loop_X _ _ _ _ (by intro r; first | (simp; done) | (rcases r with r | r <;> simp; done) | (rcases r with r | r | r <;> simp; done) | (rcases r with r | r | r | r <;> simp)) (fun s=>g38l1_b_eq  y1 y2 s.1 s.2) (y0,y3)
def impl_Node_encode (a_n:K3):Option (Str):=if ¬(a_n.1 = true) then (impl_putBytes 2 1).bind fun r1=>(impl_putBytes ((a_n.2.2.1.length:Int)) 1).bind fun r2=>if r1.length + r2.length ≤ 9223372036854775807 then (impl_putPairs a_n.2.2.2).bind fun r3=>if ((r1 ++ r2)).length + r3.length ≤ 9223372036854775807 then (impl_putPairs a_n.2.2.1).bind fun r4=>if (((r1 ++ r2) ++ r3)).length + r4.length ≤ 9223372036854775807 then (impl_padded ((((r1 ++ r2) ++ r3) ++ r4)) 64).bind fun r5=>some r5 else none else none else none else (impl_putBytes 1 1).bind fun r6=>(impl_putBytes ((a_n.2.1.length:Int)) 1).bind fun r7=>if r6.length + r7.length ≤ 9223372036854775807 then (impl_Node_encode_l1 a_n.2.1 ((a_n.2.1.length:Int)) (((r6 ++ r7),0))).bind fun r15=>(impl_padded r15 64).bind fun r16=>some r16 else none
@[simp] def g38_O:Str → TV × List Blk:=fun r=>((.str r),[])
def g38_E (a:K3):List TV:=[(.agg [(.bool a.1),(.vs (rows a.2.1)),(.vs (rows a.2.2.1)),(.vs (rows a.2.2.2))])]
theorem g38_run (a_n:K3) :callFn (X g38_S) g38_tf (g38_E a_n) [] = (impl_Node_encode a_n).map g38_O:=by
  rw [callFn_eq]
  simp (maxSteps:=2000000) (maxDischargeDepth:=8) -implicitDefEqProofs [g38_tf,impl_Node_encode,g38_E,bslV_lit (α:=Int) (zs:=[(.int .i64 0)])] <;> (try simp only [map_to_bind,some_elim,g38_O])
def g38_r:Rule:=RlO g38_E (fun a=>impl_Node_encode a) g38_O
theorem g38_ok:RuleOk Tryz.prog 91 g38_r:=ok_rlo (S:=g38_S) (tf:=g38_tf) (SysOk.on ⟨g73_ok,g74_ok,g110_ok,trivial⟩ trivial) (trE_ok (ks:=[[13],[4],[3,31,32,33],[13]]) Tryz.func91 (by kernel_rfl)) fun a=>g38_run a
@[simp] theorem g38_app (y0 y1 y2 y3):g38_r [(.agg [(.bool y0),(.vs (rows y1)),(.vs (rows y2)),(.vs (rows y3))])] = (impl_Node_encode ((y0,y1,y2,y3))).map g38_O :=
  RlO_app (enc:=g38_E) (by intro a b h; simp [g38_E,Prod.ext_iff] at h ⊢; simp [h]) ((y0,y1,y2,y3))
@[simp] theorem g38_app_a_n_1_a_n_2_a_n_3 (y0):g38_r [(.agg [(.bool y0),(.vs []),(.vs []),(.vs [])])] = (impl_Node_encode ((y0,([]:List (Int × Int × Int × Int)),([]:List Int),([]:List Int)))).map g38_O :=
  g38_app y0 ([]:List (Int × Int × Int × Int)) ([]:List Int) ([]:List Int) 
/-! (*impl.Pager).newIndex -/
def g16_tf:TFn:=⟨(sq [mk 2 (ki 0),mk 3 (ki 0)] [0] (sq [mo 7 0,oo 8 (.callM 89 0 [0,1,2,3,4] [.t 7,ki 1]),mo 6 8,oo 9 (.ext (.t 6) 0),oo 10 (.ext (.t 6) 1),mo 4 9,mo 5 10] [0,4,5] (.seq (sq [mo 11 5,bn 12 .neq (.t 11) (ki 0)] [0,4,5,12] (.cond (.t 12) (.seq (.ops [mo 13 5,mk 2 (ki 0),mo 3 13]) (.keep (kp [(2,0),(3,0)] [(0,2),(5,1),(6,1),(7,1),(8,1)] 1) .ret)) .skip)) (.trim [0,4] (.seq (.ops [mo 14 4,mo 15 0,mo 16 4,oo 17 (.build [(.bool false),.nils,.nils,.nils] [(0,1,(kb true))]),ca 18 91 [.t 17],oo 19 (.callM 90 0 [0,5,6,7,8] [.t 15,.t 16,.t 18]),mo 2 14,mo 3 19]) (.keep (kp [(2,0),(3,0)] [(0,2),(9,1),(10,1),(11,1),(12,1)] 1) .ret)))))),[.t 2,.t 3]⟩
abbrev g16_S:=Sys.on [(91,g38_r)] [((89,0),(1,g15_r)),((90,0),(1,g25_r))]
def impl_Pager_newIndex_o19 (a1:K1):Option (K1 × Int × Int):=(impl_Pager_allocate_of2 a1 1).bind fun r1=>if ¬(r1.2.2 = 0) then some (r1.1,0,r1.2.2) else (impl_Node_encode ((true,([]:List (Int × Int × Int × Int)),([]:List Int),([]:List Int)))).bind fun r2=>(impl_Pager_set_oc8 r1.1 r1.2.1 r2).bind fun r3=>some (r3.1,r1.2.1,r3.2)
@[simp] def g16_O:(K1 × Int × Int) → TV × List Blk:=fun r=>((.tup [(.int .i64 r.2.1),(.int .i64 r.2.2)]),[(.live 12 [[(ow 1 r.1.1.1.length),(ow 2 r.1.1.2.1.length),(.int .i64 r.1.1.2.2.1),(.bool r.1.1.2.2.2),(.int .i64 r.1.2.1.1),(.int .i64 r.1.2.1.2.1),(.int .i64 r.1.2.1.2.2.1),(.int .i64 r.1.2.1.2.2.2),(.int .i64 r.1.2.2.1),(.int .i64 r.1.2.2.2.1),(ow 3 r.1.2.2.2.2.1.length),(ow 4 r.1.2.2.2.2.2.length)]]),(ob 1 r.1.1.1),(ob 2 r.1.1.2.1),(ob 2 r.1.2.2.2.2.1),(ob 2 r.1.2.2.2.2.2)])
abbrev g16_T:=K1
def g16_E (a:g16_T):List TV:=[(.ptr 0 0 0)]
def g16_B (a:g16_T):List Blk:=[(.live 12 [[(ow 1 a.1.1.length),(ow 2 a.1.2.1.length),(.int .i64 a.1.2.2.1),(.bool a.1.2.2.2),(.int .i64 a.2.1.1),(.int .i64 a.2.1.2.1),(.int .i64 a.2.1.2.2.1),(.int .i64 a.2.1.2.2.2),(.int .i64 a.2.2.1),(.int .i64 a.2.2.2.1),(ow 3 a.2.2.2.2.1.length),(ow 4 a.2.2.2.2.2.length)]]),(ob 1 a.1.1),(ob 2 a.1.2.1),(ob 2 a.2.2.2.2.1),(ob 2 a.2.2.2.2.2)]
theorem g16_run (a1:K1) :callFn (X g16_S) g16_tf (g16_E a1) (g16_B a1) = (impl_Pager_newIndex_o19 a1).map g16_O:=by
  rw [callFn_eq]
  simp (maxSteps:=2000000) (maxDischargeDepth:=8) -implicitDefEqProofs [g16_tf,impl_Pager_newIndex_o19,g16_E,g16_B] <;> (try simp only [map_to_bind,some_elim,g16_O])
def g16_r:MRule:=RmO g16_E g16_B (fun a=>impl_Pager_newIndex_o19 a) g16_O
theorem g16_ok:MRuleOk Tryz.prog 44 1 g16_r:=ok_rmo (S:=g16_S) (tf:=g16_tf) (SysOk.on ⟨g38_ok,trivial⟩ ⟨g15_ok,g25_ok,trivial⟩) (trE_ok (ks:=[]) Tryz.func44 (by kernel_rfl)) (by rfl) (fun _=>by simp [g16_B]) (fun _=>by simp) fun a=>g16_run a
@[simp] theorem g16_app (y0:List Str)(y1:List (Int × Str))(y2 y3 y4 y5 y6 y7 y8 y9)(y10:List (Int × Str))(y11:List (Int × Str)){n1:Nat}(h1:n1 = y0.length){n2:Nat}(h2:n2 = y1.length){n3:Nat}(h3:n3 = y10.length){n4:Nat}(h4:n4 = y11.length):g16_r [(.ptr 0 0 0)] [(.live 12 [[(ow 1 n1),(ow 2 n2),(.int .i64 y2),(.bool y3),(.int .i64 y4),(.int .i64 y5),(.int .i64 y6),(.int .i64 y7),(.int .i64 y8),(.int .i64 y9),(ow 3 n3),(ow 4 n4)]]),(ob 1 y0),(ob 2 y1),(ob 2 y10),(ob 2 y11)] = (impl_Pager_newIndex_o19 (((y0,y1,y2,y3),(y4,y5,y6,y7),y8,y9,y10,y11))).map g16_O:=by
  subst h1 h2 h3 h4
  exact RmO_app (enc:=g16_E) (encB:=g16_B) (by intro a b h h2; simp [g16_E,g16_B,Prod.ext_iff] at h h2 ⊢; simp [h,h2]) (((y0,y1,y2,y3),(y4,y5,y6,y7),y8,y9,y10,y11))
/-! (impl.Pager).making -/
def g9_tf:TFn:=⟨(sq [bx 2 0,oo 4 (.alloc [.nils,.nils,(.int .i64 0),(.bool false),(.int .i64 0),(.int .i64 0),(.int .i64 0),(.int .i64 0),(.int .i64 0),(.int .i64 0),.nils,.nils]),mk 5 (ki 0),mk 6 (ki 0)] [1,2,4] (sq [ln 10 12 2,ca 11 72 [.t 10],oo 7 (.alloc [.nils,.nils,(.int .i64 0),(.bool false),(.int .i64 0),(.int .i64 0),(.int .i64 0),(.int .i64 0),(.int .i64 0),(.int .i64 0),.nils,.nils]),⟨none,none,(.store 12 (.t 7) (.t 11))⟩] [1,4,7] (sq [mo 13 1,oo 14 (.callvM (.t 13) 0 [7,3,4,5,6] [.t 7]),mo 12 14,oo 15 (.ext (.t 12) 0),oo 16 (.ext (.t 12) 1),mo 8 15,mo 9 16] [4,7,8,9] (.seq (sq [mo 17 9,bn 18 .neq (.t 17) (ki 0)] [4,7,8,9,18] (.cond (.t 18) (.seq (.ops [oo 19 (.build [.nils,.nils,(.int .i64 0),(.bool false),(.int .i64 0),(.int .i64 0),(.int .i64 0),(.int .i64 0),(.int .i64 0),(.int .i64 0),.nils,.nils] []),mo 20 9,⟨none,none,(.store 12 (.t 4) (.t 19))⟩,mk 5 (ki 0),mo 6 20]) (.keep (kp [(4,0),(5,0),(6,0)] [(1,2),(1000,1),(1001,1),(1002,1),(1003,1)] 0) .ret)) .skip)) (.trim [4,7,8] (.seq (.ops [ln 21 12 7,mo 22 8,⟨none,none,(.store 12 (.t 4) (.t 21))⟩,mo 5 22,mk 6 (ki 0)]) (.keep (kp [(4,0),(5,0),(6,0)] [(1,2),(8,1),(9,1),(10,1),(11,1)] 0) .ret))))))),[.cell 4 (some 12),.t 5,.t 6]⟩
abbrev g9_S:=Sys.on [(72,g37_r)] [((44,0),(1,g16_r))]
def impl_Pager_making_Pager_newIndex (a_p:K1):Option (K1 × Int × Int):=(impl_Pager_clone a_p).bind fun r1=>(impl_Pager_newIndex_o19 r1).bind fun r2=>if ¬(r2.2.2 = 0) then some (((([]:List Str),([]:List (Int × Str)),0,false),(0,0,0,0),0,0,([]:List (Int × Str)),([]:List (Int × Str))),0,r2.2.2) else some (r2.1,r2.2.1,0)
@[simp] def g9_O:(K1 × Int × Int) → TV × List Blk:=fun r=>((.tup [(.agg [(ow 1 r.1.1.1.length),(ow 2 r.1.1.2.1.length),(.int .i64 r.1.1.2.2.1),(.bool r.1.1.2.2.2),(.int .i64 r.1.2.1.1),(.int .i64 r.1.2.1.2.1),(.int .i64 r.1.2.1.2.2.1),(.int .i64 r.1.2.1.2.2.2),(.int .i64 r.1.2.2.1),(.int .i64 r.1.2.2.2.1),(ow 3 r.1.2.2.2.2.1.length),(ow 4 r.1.2.2.2.2.2.length)]),(.int .i64 r.2.1),(.int .i64 r.2.2)]),[(.live 12 [[(ow 1 r.1.1.1.length),(ow 2 r.1.1.2.1.length),(.int .i64 r.1.1.2.2.1),(.bool r.1.1.2.2.2),(.int .i64 r.1.2.1.1),(.int .i64 r.1.2.1.2.1),(.int .i64 r.1.2.1.2.2.1),(.int .i64 r.1.2.1.2.2.2),(.int .i64 r.1.2.2.1),(.int .i64 r.1.2.2.2.1),(ow 3 r.1.2.2.2.2.1.length),(ow 4 r.1.2.2.2.2.2.length)]]),(ob 1 r.1.1.1),(ob 2 r.1.1.2.1),(ob 2 r.1.2.2.2.2.1),(ob 2 r.1.2.2.2.2.2)])
def g9_E (a:K1):List TV:=[(.agg [(.vs (rows a.1.1)),(.vs (rows a.1.2.1)),(.int .i64 a.1.2.2.1),(.bool a.1.2.2.2),(.int .i64 a.2.1.1),(.int .i64 a.2.1.2.1),(.int .i64 a.2.1.2.2.1),(.int .i64 a.2.1.2.2.2),(.int .i64 a.2.2.1),(.int .i64 a.2.2.2.1),(.vs (rows a.2.2.2.2.1)),(.vs (rows a.2.2.2.2.2))]),(.fn 44 [] [])]
theorem g9_run (a_p:K1) :callFn (X g9_S) g9_tf (g9_E a_p) [] = (impl_Pager_making_Pager_newIndex a_p).map g9_O:=by
  rw [callFn_eq]
  simp (maxSteps:=2000000) (maxDischargeDepth:=8) -implicitDefEqProofs [g9_tf,impl_Pager_making_Pager_newIndex,g9_E] <;> (try simp only [map_to_bind,some_elim,g9_O])
def g9_r:Rule:=RlO g9_E (fun a=>impl_Pager_making_Pager_newIndex a) g9_O
theorem g9_ok:RuleOk Tryz.prog 31 g9_r:=ok_rlo (S:=g9_S) (tf:=g9_tf) (SysOk.on ⟨g37_ok,trivial⟩ ⟨g16_ok,trivial⟩) (trE_ok (ks:=[]) Tryz.func31 (by kernel_rfl)) fun a=>g9_run a
@[simp] theorem g9_app (y0 y1 y2 y3 y4 y5 y6 y7 y8 y9 y10 y11):g9_r [(.agg [(.vs (rows y0)),(.vs (rows y1)),(.int .i64 y2),(.bool y3),(.int .i64 y4),(.int .i64 y5),(.int .i64 y6),(.int .i64 y7),(.int .i64 y8),(.int .i64 y9),(.vs (rows y10)),(.vs (rows y11))]),(.fn 44 [] [])] = (impl_Pager_making_Pager_newIndex (((y0,y1,y2,y3),(y4,y5,y6,y7),y8,y9,y10,y11))).map g9_O :=
  RlO_app (enc:=g9_E) (by intro a b h; simp [g9_E,Prod.ext_iff] at h ⊢; simp [h]) (((y0,y1,y2,y3),(y4,y5,y6,y7),y8,y9,y10,y11))
/-! impl.NewIndex -/
def g75_tf:TFn:=⟨(sq [bx 1 0,oo 2 (.alloc [.nils,.nils,(.int .i64 0),(.bool false),(.int .i64 0),(.int .i64 0),(.int .i64 0),(.int .i64 0),(.int .i64 0),(.int .i64 0),.nils,.nils]),mk 3 (ki 0),mk 4 (ki 0)] [1,2] (.seq (sq [ln 5 12 1,ca 6 29 [.t 5],nt 7 6] [1,2,7] (.cond (.t 7) (.seq (.ops [oo 8 (.build [.nils,.nils,(.int .i64 0),(.bool false),(.int .i64 0),(.int .i64 0),(.int .i64 0),(.int .i64 0),(.int .i64 0),(.int .i64 0),.nils,.nils] []),⟨none,none,(.store 12 (.t 2) (.t 8))⟩,mk 3 (ki 0),mk 4 (ki 1)]) (.keep (kp [(2,0),(3,0),(4,0)] [(1,2),(1000,1),(1001,1),(1002,1),(1003,1)] 0) .ret)) .skip)) (.trim [1,2] (.seq (.ops [ln 9 12 1,oo 10 (.call 31 [.t 9,(.c (.fn 44 [] []))]),oo 11 (.ext (.t 10) 0),oo 12 (.ext (.t 10) 1),oo 13 (.ext (.t 10) 2),⟨none,none,(.store 12 (.t 2) (.t 11))⟩,mo 3 12,mo 4 13]) (.keep (kp [(2,0),(3,0),(4,0)] [(1,2),(3,1),(4,1),(5,1),(6,1)] 0) .ret))))),[.cell 2 (some 12),.t 3,.t 4]⟩
abbrev g75_S:=Sys.on [(29,g47_r),(31,g9_r)] []
def impl_NewIndex (a_p:K1):Option (K1 × Int × Int):=(impl_ValidPager a_p).bind fun r1=>if ¬(r1 = true) then some (((([]:List Str),([]:List (Int × Str)),0,false),(0,0,0,0),0,0,([]:List (Int × Str)),([]:List (Int × Str))),0,1) else (impl_Pager_making_Pager_newIndex a_p).bind fun r2=>some (r2.1,r2.2.1,r2.2.2)
@[simp] def g75_O:(K1 × Int × Int) → TV × List Blk:=fun r=>((.tup [(.agg [(ow 1 r.1.1.1.length),(ow 2 r.1.1.2.1.length),(.int .i64 r.1.1.2.2.1),(.bool r.1.1.2.2.2),(.int .i64 r.1.2.1.1),(.int .i64 r.1.2.1.2.1),(.int .i64 r.1.2.1.2.2.1),(.int .i64 r.1.2.1.2.2.2),(.int .i64 r.1.2.2.1),(.int .i64 r.1.2.2.2.1),(ow 3 r.1.2.2.2.2.1.length),(ow 4 r.1.2.2.2.2.2.length)]),(.int .i64 r.2.1),(.int .i64 r.2.2)]),[(.live 12 [[(ow 1 r.1.1.1.length),(ow 2 r.1.1.2.1.length),(.int .i64 r.1.1.2.2.1),(.bool r.1.1.2.2.2),(.int .i64 r.1.2.1.1),(.int .i64 r.1.2.1.2.1),(.int .i64 r.1.2.1.2.2.1),(.int .i64 r.1.2.1.2.2.2),(.int .i64 r.1.2.2.1),(.int .i64 r.1.2.2.2.1),(ow 3 r.1.2.2.2.2.1.length),(ow 4 r.1.2.2.2.2.2.length)]]),(ob 1 r.1.1.1),(ob 2 r.1.1.2.1),(ob 2 r.1.2.2.2.2.1),(ob 2 r.1.2.2.2.2.2)])
def g75_E (a:K1):List TV:=[(.agg [(.vs (rows a.1.1)),(.vs (rows a.1.2.1)),(.int .i64 a.1.2.2.1),(.bool a.1.2.2.2),(.int .i64 a.2.1.1),(.int .i64 a.2.1.2.1),(.int .i64 a.2.1.2.2.1),(.int .i64 a.2.1.2.2.2),(.int .i64 a.2.2.1),(.int .i64 a.2.2.2.1),(.vs (rows a.2.2.2.2.1)),(.vs (rows a.2.2.2.2.2))])]
theorem g75_run (a_p:K1) :callFn (X g75_S) g75_tf (g75_E a_p) [] = (impl_NewIndex a_p).map g75_O:=by
  rw [callFn_eq]
  simp (maxSteps:=2000000) (maxDischargeDepth:=8) -implicitDefEqProofs [g75_tf,impl_NewIndex,g75_E] <;> (try simp only [map_to_bind,some_elim,g75_O])
def g75_r:Rule:=RlO g75_E (fun a=>impl_NewIndex a) g75_O
theorem g75_ok:RuleOk Tryz.prog 17 g75_r:=ok_rlo (S:=g75_S) (tf:=g75_tf) (SysOk.on ⟨g47_ok,g9_ok,trivial⟩ trivial) (trE_ok (ks:=[]) Tryz.func17 (by kernel_rfl)) fun a=>g75_run a
@[simp] theorem g75_app (y0 y1 y2 y3 y4 y5 y6 y7 y8 y9 y10 y11):g75_r [(.agg [(.vs (rows y0)),(.vs (rows y1)),(.int .i64 y2),(.bool y3),(.int .i64 y4),(.int .i64 y5),(.int .i64 y6),(.int .i64 y7),(.int .i64 y8),(.int .i64 y9),(.vs (rows y10)),(.vs (rows y11))])] = (impl_NewIndex (((y0,y1,y2,y3),(y4,y5,y6,y7),y8,y9,y10,y11))).map g75_O :=
  RlO_app (enc:=g75_E) (by intro a b h; simp [g75_E,Prod.ext_iff] at h ⊢; simp [h]) (((y0,y1,y2,y3),(y4,y5,y6,y7),y8,y9,y10,y11))
/-! laws.eqStringS -/
def g63l1_cb:TC:=(.seq (sq [mo 11 5,mo 12 0,le 13 12,bn 14 .lss (.t 11) (.t 13)] [0,1,5,14] (.cond (.t 14) .skip (.keep (kp [] [] 0) (.exit 0)))) (.trim [0,1,5] (.seq (.block 1 (.seq (.draw [([],mo 17 0),([],mo 18 5),([0,1],ia 19 1 17 18),([0,1,2],ld 20 19),([],mo 21 1),([],mo 22 5),([4,5],ia 23 1 21 22),([4,5,6],ld 24 23)] [oo 25 (.bin .str .neq (.t 20) (.t 24))]) (.trim [0,1,5,25] (.cond (.t 25) (.seq (.ops [mk 4 (kb false)]) (.keep (kp [(4,0)] [] 0) .ret)) .skip)))) (.trim [0,1,5] (.after (.ops [mo 15 5,bn 16 .add (.t 15) (ki 1),mo 5 16]) (kp [(0,0),(1,0),(5,0)] [] 0))))))
def g63l1_c:TC:=.loop [0,1,5] g63l1_cb
def g63_tf:TFn:=⟨(sq [mk 4 (kb false)] [0,1] (.seq (sq [mo 6 0,le 7 6,mo 8 1,le 9 8,bn 10 .neq (.t 7) (.t 9)] [0,1,10] (.cond (.t 10) (.seq (.ops [mk 4 (kb false)]) (.keep (kp [(4,0)] [] 0) .ret)) .skip)) (.trim [0,1] (.seq (sq [mk 5 (ki 0)] [0,1,5] (.block 0 (.keep (kp [(0,0),(1,0),(5,0)] [] 0) g63l1_c))) (.trim [] (.seq (.ops [mk 4 (kb true)]) (.keep (kp [(4,0)] [] 0) .ret))))))),[.t 4]⟩
abbrev g63_S:=Sys.on [] []
@[reducible,simp] def g63l1_F:((Unit) ⊕ (Bool)) → Out:=(Sum.elim (fun t=>(.ext 0,[],[])) (fun t=>(.ret,[(4,(.bool t))],[])))
def laws_eqStringS_l1_b (v1:List Str) (v2:List Str) (v3:Int):Option ((Int) ⊕ ((Unit) ⊕ (Bool))):=if v3 < (v1.length:Int) then if 0 ≤ v3 then (v1[(v3).toNat]?).bind fun x4=>if 0 ≤ v3 then (v2[(v3).toNat]?).bind fun x5=>if ¬(x4 = x5) then some (.inr (.inr false)) else some (.inl ((IntKind.i64.wrap (v3 + 1)))) else none else none else some (.inr (.inl ()))
theorem g63l1_b_eq  (v1:List Str) (v2:List Str) (v3:Int):X g63_S g63l1_cb (keepEnv [0,1,5] [(0,(.vs (rows v1))),(1,(.vs (rows v2))),(5,(.int .i64 v3))]) [] = (laws_eqStringS_l1_b v1 v2 v3).map (Sum.elim (fun s=>(TX.nrm,[(0,(.vs (rows v1))),(1,(.vs (rows v2))),(5,(.int .i64 s))],[])) g63l1_F):=by
  simp (maxSteps:=2000000) (maxDischargeDepth:=8) -implicitDefEqProofs [g63l1_cb,laws_eqStringS_l1_b] <;> (try simp only [map_to_bind,some_elim,g63l1_F])
def laws_eqStringS_l1 (v1:List Str) (v2:List Str) (s:Int):Option ((Unit) ⊕ (Bool)):=loopO (fun s=>laws_eqStringS_l1_b v1 v2 s) s
@[simp] theorem g63l1_eq (y0 y1 y2):X g63_S g63l1_c [(0,(.vs (rows y0))),(1,(.vs (rows y1))),(5,(.int .i64 y2))] [] = (laws_eqStringS_l1 y0 y1 y2).map g63l1_F:=by
  exact loop_X _ _ _ _ (by intro r; first | (simp; done) | (rcases r with r | r <;> simp; done) | (rcases r with r | r | r <;> simp; done) | (rcases r with r | r | r | r <;> simp)) (fun s=>g63l1_b_eq  y0 y1 s) y2
def laws_eqStringS (a_a:List Str) (a_b:List Str):Option (Bool):=if ¬((a_a.length:Int) = (a_b.length:Int)) then some false else (laws_eqStringS_l1 a_a a_b 0).bind fun r6=>Sum.elim (fun u7=>some true) (fun u8=>some u8) r6
@[simp] def g63_O:Bool → TV × List Blk:=fun r=>((.bool r),[])
def g63_E (a:List Str × List Str):List TV:=[(.vs (rows a.1)),(.vs (rows a.2))]
theorem g63_run (a_a:List Str) (a_b:List Str) :callFn (X g63_S) g63_tf (g63_E (a_a,a_b)) [] = (laws_eqStringS a_a a_b).map g63_O:=by
  rw [callFn_eq]
  simp (maxSteps:=2000000) (maxDischargeDepth:=8) -implicitDefEqProofs [g63_tf,laws_eqStringS,g63_E] <;> (try simp only [map_to_bind,some_elim,g63_O])
def g63_r:Rule:=RlO g63_E (fun a=>laws_eqStringS a.1 a.2) g63_O
theorem g63_ok:RuleOk Tryz.prog 77 g63_r:=ok_rlo (S:=g63_S) (tf:=g63_tf) (SysOk.on trivial trivial) (trE_ok (ks:=[[0,1,5],[8]]) Tryz.func77 (by kernel_rfl)) fun a=>g63_run a.1 a.2
@[simp] theorem g63_app (y0 y1):g63_r [(.vs (rows y0)),(.vs (rows y1))] = (laws_eqStringS y0 y1).map g63_O :=
  RlO_app (enc:=g63_E) (by intro a b h; simp [g63_E,Prod.ext_iff] at h ⊢; simp [h]) (y0,y1)
/-! laws.eqPut -/
def g120_tf:TFn:=⟨(sq [bx 2 0,bx 3 1,mk 4 (kb false)] [2,3] (.seq (sq [fa 5 0 2,ld 6 5,fa 7 0 3,ld 8 7,bn 9 .neq (.t 6) (.t 8)] [2,3,9] (.cond (.t 9) (.seq (.ops [mk 4 (kb false)]) (.keep (kp [(4,0)] [] 0) .ret)) .skip)) (.trim [2,3] (.seq (sq [fa 10 1 2,ld 11 10,fa 12 1 3,ld 13 12,oo 14 (.bin .str .neq (.t 11) (.t 13))] [14] (.cond (.t 14) (.seq (.ops [mk 4 (kb false)]) (.keep (kp [(4,0)] [] 0) .ret)) .skip)) (.trim [] (.seq (.ops [mk 4 (kb true)]) (.keep (kp [(4,0)] [] 0) .ret))))))),[.t 4]⟩
abbrev g120_S:=Sys.on [] []
def laws_eqPut (a_a:Int × Str) (a_b:Int × Str):Option (Bool):=if ¬(a_a.1 = a_b.1) then some false else if ¬(a_a.2 = a_b.2) then some false else some true
@[simp] def g120_O:Bool → TV × List Blk:=fun r=>((.bool r),[])
def g120_E (a:(Int × Str) × (Int × Str)):List TV:=[(.agg [(.int .i64 a.1.1),(.str a.1.2)]),(.agg [(.int .i64 a.2.1),(.str a.2.2)])]
theorem g120_run (a_a:Int × Str) (a_b:Int × Str) :callFn (X g120_S) g120_tf (g120_E (a_a,a_b)) [] = (laws_eqPut a_a a_b).map g120_O:=by
  rw [callFn_eq]
  simp (maxSteps:=2000000) (maxDischargeDepth:=8) -implicitDefEqProofs [g120_tf,laws_eqPut,g120_E] <;> (try simp only [map_to_bind,some_elim,g120_O])
def g120_r:Rule:=RlO g120_E (fun a=>laws_eqPut a.1 a.2) g120_O
theorem g120_ok:RuleOk Tryz.prog 114 g120_r:=ok_rlo (S:=g120_S) (tf:=g120_tf) (SysOk.on trivial trivial) (trE_ok (ks:=[]) Tryz.func114 (by kernel_rfl)) fun a=>g120_run a.1 a.2
@[simp] theorem g120_app (y0 y1 y2 y3):g120_r [(.agg [(.int .i64 y0),(.str y1)]),(.agg [(.int .i64 y2),(.str y3)])] = (laws_eqPut ((y0,y1)) ((y2,y3))).map g120_O :=
  RlO_app (enc:=g120_E) (by intro a b h; simp [g120_E,Prod.ext_iff] at h ⊢; simp [h]) ((y0,y1),(y2,y3))
/-! laws.eqPutS -/
def g111l1_cb:TC:=(.seq (sq [mo 11 5,mo 12 0,le 13 12,bn 14 .lss (.t 11) (.t 13)] [0,1,5,14] (.cond (.t 14) .skip (.keep (kp [] [] 0) (.exit 0)))) (.trim [0,1,5] (.seq (.block 1 (.seq (.draw [([],mo 17 0),([],mo 18 5),([0,1],ia 19 2 17 18),([0,1,2],ln 20 2 19),([],mo 21 1),([],mo 22 5),([4,5],ia 23 2 21 22),([4,5,6],ln 24 2 23)] [ca 25 114 [.t 20,.t 24],nt 26 25]) (.trim [0,1,5,26] (.cond (.t 26) (.seq (.ops [mk 4 (kb false)]) (.keep (kp [(4,0)] [] 0) .ret)) .skip)))) (.trim [0,1,5] (.after (.ops [mo 15 5,bn 16 .add (.t 15) (ki 1),mo 5 16]) (kp [(0,0),(1,0),(5,0)] [] 0))))))
def g111l1_c:TC:=.loop [0,1,5] g111l1_cb
def g111_tf:TFn:=⟨(sq [mk 4 (kb false)] [0,1] (.seq (sq [mo 6 0,le 7 6,mo 8 1,le 9 8,bn 10 .neq (.t 7) (.t 9)] [0,1,10] (.cond (.t 10) (.seq (.ops [mk 4 (kb false)]) (.keep (kp [(4,0)] [] 0) .ret)) .skip)) (.trim [0,1] (.seq (sq [mk 5 (ki 0)] [0,1,5] (.block 0 (.keep (kp [(0,0),(1,0),(5,0)] [] 0) g111l1_c))) (.trim [] (.seq (.ops [mk 4 (kb true)]) (.keep (kp [(4,0)] [] 0) .ret))))))),[.t 4]⟩
abbrev g111_S:=Sys.on [(114,g120_r)] []
@[reducible,simp] def g111l1_F:((Unit) ⊕ (Bool)) → Out:=(Sum.elim (fun t=>(.ext 0,[],[])) (fun t=>(.ret,[(4,(.bool t))],[])))
def laws_eqPutS_l1_b (v1:List (Int × Str)) (v2:List (Int × Str)) (v3:Int):Option ((Int) ⊕ ((Unit) ⊕ (Bool))):=if v3 < (v1.length:Int) then if 0 ≤ v3 then (v1[(v3).toNat]?).bind fun x4=>if 0 ≤ v3 then (v2[(v3).toNat]?).bind fun x5=>(laws_eqPut x4 x5).bind fun r6=>if ¬(r6 = true) then some (.inr (.inr false)) else some (.inl ((IntKind.i64.wrap (v3 + 1)))) else none else none else some (.inr (.inl ()))
theorem g111l1_b_eq  (v1:List (Int × Str)) (v2:List (Int × Str)) (v3:Int):X g111_S g111l1_cb (keepEnv [0,1,5] [(0,(.vs (rows v1))),(1,(.vs (rows v2))),(5,(.int .i64 v3))]) [] = (laws_eqPutS_l1_b v1 v2 v3).map (Sum.elim (fun s=>(TX.nrm,[(0,(.vs (rows v1))),(1,(.vs (rows v2))),(5,(.int .i64 s))],[])) g111l1_F):=by
  simp (maxSteps:=2000000) (maxDischargeDepth:=8) -implicitDefEqProofs [g111l1_cb,laws_eqPutS_l1_b] <;> (try simp only [map_to_bind,some_elim,g111l1_F])
def laws_eqPutS_l1 (v1:List (Int × Str)) (v2:List (Int × Str)) (s:Int):Option ((Unit) ⊕ (Bool)):=loopO (fun s=>laws_eqPutS_l1_b v1 v2 s) s
@[simp] theorem g111l1_eq (y0 y1 y2):X g111_S g111l1_c [(0,(.vs (rows y0))),(1,(.vs (rows y1))),(5,(.int .i64 y2))] [] = (laws_eqPutS_l1 y0 y1 y2).map g111l1_F:=by
  exact loop_X _ _ _ _ (by intro r; first | (simp; done) | (rcases r with r | r <;> simp; done) | (rcases r with r | r | r <;> simp; done) | (rcases r with r | r | r | r <;> simp)) (fun s=>g111l1_b_eq  y0 y1 s) y2
def laws_eqPutS (a_a:List (Int × Str)) (a_b:List (Int × Str)):Option (Bool):=if ¬((a_a.length:Int) = (a_b.length:Int)) then some false else (laws_eqPutS_l1 a_a a_b 0).bind fun r7=>Sum.elim (fun u8=>some true) (fun u9=>some u9) r7
@[simp] def g111_O:Bool → TV × List Blk:=fun r=>((.bool r),[])
def g111_E (a:(List (Int × Str)) × (List (Int × Str))):List TV:=[(.vs (rows a.1)),(.vs (rows a.2))]
theorem g111_run (a_a:List (Int × Str)) (a_b:List (Int × Str)) :callFn (X g111_S) g111_tf (g111_E (a_a,a_b)) [] = (laws_eqPutS a_a a_b).map g111_O:=by
  rw [callFn_eq]
  simp (maxSteps:=2000000) (maxDischargeDepth:=8) -implicitDefEqProofs [g111_tf,laws_eqPutS,g111_E] <;> (try simp only [map_to_bind,some_elim,g111_O])
def g111_r:Rule:=RlO g111_E (fun a=>laws_eqPutS a.1 a.2) g111_O
theorem g111_ok:RuleOk Tryz.prog 78 g111_r:=ok_rlo (S:=g111_S) (tf:=g111_tf) (SysOk.on ⟨g120_ok,trivial⟩ trivial) (trE_ok (ks:=[[0,1,5],[8]]) Tryz.func78 (by kernel_rfl)) fun a=>g111_run a.1 a.2
@[simp] theorem g111_app (y0 y1):g111_r [(.vs (rows y0)),(.vs (rows y1))] = (laws_eqPutS y0 y1).map g111_O :=
  RlO_app (enc:=g111_E) (by intro a b h; simp [g111_E,Prod.ext_iff] at h ⊢; simp [h]) (y0,y1)
/-! laws.eqDisk -/
def g112_tf:TFn:=⟨(sq [bx 2 0,bx 3 1,mk 4 (kb false)] [2,3] (.seq (sq [fa 5 0 2,ld 6 5,fa 7 0 3,ld 8 7,ca 9 77 [.t 6,.t 8],nt 10 9] [2,3,10] (.cond (.t 10) (.seq (.ops [mk 4 (kb false)]) (.keep (kp [(4,0)] [] 0) .ret)) .skip)) (.trim [2,3] (.seq (sq [fa 11 1 2,ld 12 11,fa 13 1 3,ld 14 13,ca 15 78 [.t 12,.t 14],nt 16 15] [2,3,16] (.cond (.t 16) (.seq (.ops [mk 4 (kb false)]) (.keep (kp [(4,0)] [] 0) .ret)) .skip)) (.trim [2,3] (.seq (sq [fa 17 2 2,ld 18 17,fa 19 2 3,ld 20 19,bn 21 .neq (.t 18) (.t 20)] [2,3,21] (.cond (.t 21) (.seq (.ops [mk 4 (kb false)]) (.keep (kp [(4,0)] [] 0) .ret)) .skip)) (.trim [2,3] (.seq (sq [fa 22 3 2,ld 23 22,fa 24 3 3,ld 25 24,oo 26 (.bin .bool .neq (.t 23) (.t 25))] [26] (.cond (.t 26) (.seq (.ops [mk 4 (kb false)]) (.keep (kp [(4,0)] [] 0) .ret)) .skip)) (.trim [] (.seq (.ops [mk 4 (kb true)]) (.keep (kp [(4,0)] [] 0) .ret))))))))))),[.t 4]⟩
abbrev g112_S:=Sys.on [(77,g63_r),(78,g111_r)] []
def laws_eqDisk (a_a:K0) (a_b:K0):Option (Bool):=(laws_eqStringS a_a.1 a_b.1).bind fun r1=>if ¬(r1 = true) then some false else (laws_eqPutS a_a.2.1 a_b.2.1).bind fun r2=>if ¬(r2 = true) then some false else if ¬(a_a.2.2.1 = a_b.2.2.1) then some false else if ((!(a_a.2.2.2 == a_b.2.2.2))) = true then some false else some true
@[simp] def g112_O:Bool → TV × List Blk:=fun r=>((.bool r),[])
def g112_E (a:K0 × K0):List TV:=[(.agg [(.vs (rows a.1.1)),(.vs (rows a.1.2.1)),(.int .i64 a.1.2.2.1),(.bool a.1.2.2.2)]),(.agg [(.vs (rows a.2.1)),(.vs (rows a.2.2.1)),(.int .i64 a.2.2.2.1),(.bool a.2.2.2.2)])]
theorem g112_run (a_a:K0) (a_b:K0) :callFn (X g112_S) g112_tf (g112_E (a_a,a_b)) [] = (laws_eqDisk a_a a_b).map g112_O:=by
  rw [callFn_eq]
  simp (maxSteps:=2000000) (maxDischargeDepth:=8) -implicitDefEqProofs [g112_tf,laws_eqDisk,g112_E] <;> (try simp only [map_to_bind,some_elim,g112_O])
def g112_r:Rule:=RlO g112_E (fun a=>laws_eqDisk a.1 a.2) g112_O
theorem g112_ok:RuleOk Tryz.prog 34 g112_r:=ok_rlo (S:=g112_S) (tf:=g112_tf) (SysOk.on ⟨g63_ok,g111_ok,trivial⟩ trivial) (trE_ok (ks:=[]) Tryz.func34 (by kernel_rfl)) fun a=>g112_run a.1 a.2
@[simp] theorem g112_app (y0 y1 y2 y3 y4 y5 y6 y7):g112_r [(.agg [(.vs (rows y0)),(.vs (rows y1)),(.int .i64 y2),(.bool y3)]),(.agg [(.vs (rows y4)),(.vs (rows y5)),(.int .i64 y6),(.bool y7)])] = (laws_eqDisk ((y0,y1,y2,y3)) ((y4,y5,y6,y7))).map g112_O :=
  RlO_app (enc:=g112_E) (by intro a b h; simp [g112_E,Prod.ext_iff] at h ⊢; simp [h]) ((y0,y1,y2,y3),(y4,y5,y6,y7))
/-! laws.eqSuper -/
def g94_tf:TFn:=⟨(sq [bx 2 0,bx 3 1,mk 4 (kb false)] [2,3] (.seq (sq [fa 5 0 2,ld 6 5,fa 7 0 3,ld 8 7,bn 9 .neq (.t 6) (.t 8)] [2,3,9] (.cond (.t 9) (.seq (.ops [mk 4 (kb false)]) (.keep (kp [(4,0)] [] 0) .ret)) .skip)) (.trim [2,3] (.seq (sq [fa 10 1 2,ld 11 10,fa 12 1 3,ld 13 12,bn 14 .neq (.t 11) (.t 13)] [2,3,14] (.cond (.t 14) (.seq (.ops [mk 4 (kb false)]) (.keep (kp [(4,0)] [] 0) .ret)) .skip)) (.trim [2,3] (.seq (sq [fa 15 2 2,ld 16 15,fa 17 2 3,ld 18 17,bn 19 .neq (.t 16) (.t 18)] [2,3,19] (.cond (.t 19) (.seq (.ops [mk 4 (kb false)]) (.keep (kp [(4,0)] [] 0) .ret)) .skip)) (.trim [2,3] (.seq (sq [fa 20 3 2,ld 21 20,fa 22 3 3,ld 23 22,bn 24 .neq (.t 21) (.t 23)] [24] (.cond (.t 24) (.seq (.ops [mk 4 (kb false)]) (.keep (kp [(4,0)] [] 0) .ret)) .skip)) (.trim [] (.seq (.ops [mk 4 (kb true)]) (.keep (kp [(4,0)] [] 0) .ret))))))))))),[.t 4]⟩
abbrev g94_S:=Sys.on [] []
def laws_eqSuper (a_a:Int × Int × Int × Int) (a_b:Int × Int × Int × Int):Option (Bool):=if ¬(a_a.1 = a_b.1) then some false else if ¬(a_a.2.1 = a_b.2.1) then some false else if ¬(a_a.2.2.1 = a_b.2.2.1) then some false else if ¬(a_a.2.2.2 = a_b.2.2.2) then some false else some true
@[simp] def g94_O:Bool → TV × List Blk:=fun r=>((.bool r),[])
def g94_E (a:(Int × Int × Int × Int) × (Int × Int × Int × Int)):List TV:=[(.agg [(.int .i64 a.1.1),(.int .i64 a.1.2.1),(.int .i64 a.1.2.2.1),(.int .i64 a.1.2.2.2)]),(.agg [(.int .i64 a.2.1),(.int .i64 a.2.2.1),(.int .i64 a.2.2.2.1),(.int .i64 a.2.2.2.2)])]
theorem g94_run (a_a:Int × Int × Int × Int) (a_b:Int × Int × Int × Int) :callFn (X g94_S) g94_tf (g94_E (a_a,a_b)) [] = (laws_eqSuper a_a a_b).map g94_O:=by
  rw [callFn_eq]
  simp (maxSteps:=2000000) (maxDischargeDepth:=8) -implicitDefEqProofs [g94_tf,laws_eqSuper,g94_E] <;> (try simp only [map_to_bind,some_elim,g94_O])
def g94_r:Rule:=RlO g94_E (fun a=>laws_eqSuper a.1 a.2) g94_O
theorem g94_ok:RuleOk Tryz.prog 35 g94_r:=ok_rlo (S:=g94_S) (tf:=g94_tf) (SysOk.on trivial trivial) (trE_ok (ks:=[]) Tryz.func35 (by kernel_rfl)) fun a=>g94_run a.1 a.2
@[simp] theorem g94_app (y0 y1 y2 y3 y4 y5 y6 y7):g94_r [(.agg [(.int .i64 y0),(.int .i64 y1),(.int .i64 y2),(.int .i64 y3)]),(.agg [(.int .i64 y4),(.int .i64 y5),(.int .i64 y6),(.int .i64 y7)])] = (laws_eqSuper ((y0,y1,y2,y3)) ((y4,y5,y6,y7))).map g94_O :=
  RlO_app (enc:=g94_E) (by intro a b h; simp [g94_E,Prod.ext_iff] at h ⊢; simp [h]) ((y0,y1,y2,y3),(y4,y5,y6,y7))
/-! laws.eqPage -/
def g113_tf:TFn:=⟨(sq [bx 2 0,bx 3 1,mk 4 (kb false)] [2,3] (.seq (sq [fa 5 0 2,ld 6 5,fa 7 0 3,ld 8 7,bn 9 .neq (.t 6) (.t 8)] [2,3,9] (.cond (.t 9) (.seq (.ops [mk 4 (kb false)]) (.keep (kp [(4,0)] [] 0) .ret)) .skip)) (.trim [2,3] (.seq (sq [fa 10 1 2,ld 11 10,fa 12 1 3,ld 13 12,oo 14 (.bin .str .neq (.t 11) (.t 13))] [14] (.cond (.t 14) (.seq (.ops [mk 4 (kb false)]) (.keep (kp [(4,0)] [] 0) .ret)) .skip)) (.trim [] (.seq (.ops [mk 4 (kb true)]) (.keep (kp [(4,0)] [] 0) .ret))))))),[.t 4]⟩
abbrev g113_S:=Sys.on [] []
def laws_eqPage (a_a:Int × Str) (a_b:Int × Str):Option (Bool):=if ¬(a_a.1 = a_b.1) then some false else if ¬(a_a.2 = a_b.2) then some false else some true
@[simp] def g113_O:Bool → TV × List Blk:=fun r=>((.bool r),[])
def g113_E (a:(Int × Str) × (Int × Str)):List TV:=[(.agg [(.int .i64 a.1.1),(.str a.1.2)]),(.agg [(.int .i64 a.2.1),(.str a.2.2)])]
theorem g113_run (a_a:Int × Str) (a_b:Int × Str) :callFn (X g113_S) g113_tf (g113_E (a_a,a_b)) [] = (laws_eqPage a_a a_b).map g113_O:=by
  rw [callFn_eq]
  simp (maxSteps:=2000000) (maxDischargeDepth:=8) -implicitDefEqProofs [g113_tf,laws_eqPage,g113_E] <;> (try simp only [map_to_bind,some_elim,g113_O])
def g113_r:Rule:=RlO g113_E (fun a=>laws_eqPage a.1 a.2) g113_O
theorem g113_ok:RuleOk Tryz.prog 79 g113_r:=ok_rlo (S:=g113_S) (tf:=g113_tf) (SysOk.on trivial trivial) (trE_ok (ks:=[]) Tryz.func79 (by kernel_rfl)) fun a=>g113_run a.1 a.2
@[simp] theorem g113_app (y0 y1 y2 y3):g113_r [(.agg [(.int .i64 y0),(.str y1)]),(.agg [(.int .i64 y2),(.str y3)])] = (laws_eqPage ((y0,y1)) ((y2,y3))).map g113_O :=
  RlO_app (enc:=g113_E) (by intro a b h; simp [g113_E,Prod.ext_iff] at h ⊢; simp [h]) ((y0,y1),(y2,y3))
/-! laws.eqPageS -/
def g95l1_cb:TC:=(.seq (sq [mo 11 5,mo 12 0,le 13 12,bn 14 .lss (.t 11) (.t 13)] [0,1,5,14] (.cond (.t 14) .skip (.keep (kp [] [] 0) (.exit 0)))) (.trim [0,1,5] (.seq (.block 1 (.seq (.draw [([],mo 17 0),([],mo 18 5),([0,1],ia 19 2 17 18),([0,1,2],ln 20 2 19),([],mo 21 1),([],mo 22 5),([4,5],ia 23 2 21 22),([4,5,6],ln 24 2 23)] [ca 25 79 [.t 20,.t 24],nt 26 25]) (.trim [0,1,5,26] (.cond (.t 26) (.seq (.ops [mk 4 (kb false)]) (.keep (kp [(4,0)] [] 0) .ret)) .skip)))) (.trim [0,1,5] (.after (.ops [mo 15 5,bn 16 .add (.t 15) (ki 1),mo 5 16]) (kp [(0,0),(1,0),(5,0)] [] 0))))))
def g95l1_c:TC:=.loop [0,1,5] g95l1_cb
def g95_tf:TFn:=⟨(sq [mk 4 (kb false)] [0,1] (.seq (sq [mo 6 0,le 7 6,mo 8 1,le 9 8,bn 10 .neq (.t 7) (.t 9)] [0,1,10] (.cond (.t 10) (.seq (.ops [mk 4 (kb false)]) (.keep (kp [(4,0)] [] 0) .ret)) .skip)) (.trim [0,1] (.seq (sq [mk 5 (ki 0)] [0,1,5] (.block 0 (.keep (kp [(0,0),(1,0),(5,0)] [] 0) g95l1_c))) (.trim [] (.seq (.ops [mk 4 (kb true)]) (.keep (kp [(4,0)] [] 0) .ret))))))),[.t 4]⟩
abbrev g95_S:=Sys.on [(79,g113_r)] []
@[reducible,simp] def g95l1_F:((Unit) ⊕ (Bool)) → Out:=(Sum.elim (fun t=>(.ext 0,[],[])) (fun t=>(.ret,[(4,(.bool t))],[])))
def laws_eqPageS_l1_b (v1:List (Int × Str)) (v2:List (Int × Str)) (v3:Int):Option ((Int) ⊕ ((Unit) ⊕ (Bool))):=if v3 < (v1.length:Int) then if 0 ≤ v3 then (v1[(v3).toNat]?).bind fun x4=>if 0 ≤ v3 then (v2[(v3).toNat]?).bind fun x5=>(laws_eqPage x4 x5).bind fun r6=>if ¬(r6 = true) then some (.inr (.inr false)) else some (.inl ((IntKind.i64.wrap (v3 + 1)))) else none else none else some (.inr (.inl ()))
theorem g95l1_b_eq  (v1:List (Int × Str)) (v2:List (Int × Str)) (v3:Int):X g95_S g95l1_cb (keepEnv [0,1,5] [(0,(.vs (rows v1))),(1,(.vs (rows v2))),(5,(.int .i64 v3))]) [] = (laws_eqPageS_l1_b v1 v2 v3).map (Sum.elim (fun s=>(TX.nrm,[(0,(.vs (rows v1))),(1,(.vs (rows v2))),(5,(.int .i64 s))],[])) g95l1_F):=by
  simp (maxSteps:=2000000) (maxDischargeDepth:=8) -implicitDefEqProofs [g95l1_cb,laws_eqPageS_l1_b] <;> (try simp only [map_to_bind,some_elim,g95l1_F])
def laws_eqPageS_l1 (v1:List (Int × Str)) (v2:List (Int × Str)) (s:Int):Option ((Unit) ⊕ (Bool)):=loopO (fun s=>laws_eqPageS_l1_b v1 v2 s) s
@[simp] theorem g95l1_eq (y0 y1 y2):X g95_S g95l1_c [(0,(.vs (rows y0))),(1,(.vs (rows y1))),(5,(.int .i64 y2))] [] = (laws_eqPageS_l1 y0 y1 y2).map g95l1_F:=by
  exact loop_X _ _ _ _ (by intro r; first | (simp; done) | (rcases r with r | r <;> simp; done) | (rcases r with r | r | r <;> simp; done) | (rcases r with r | r | r | r <;> simp)) (fun s=>g95l1_b_eq  y0 y1 s) y2
def laws_eqPageS (a_a:List (Int × Str)) (a_b:List (Int × Str)):Option (Bool):=if ¬((a_a.length:Int) = (a_b.length:Int)) then some false else (laws_eqPageS_l1 a_a a_b 0).bind fun r7=>Sum.elim (fun u8=>some true) (fun u9=>some u9) r7
@[simp] def g95_O:Bool → TV × List Blk:=fun r=>((.bool r),[])
def g95_E (a:(List (Int × Str)) × (List (Int × Str))):List TV:=[(.vs (rows a.1)),(.vs (rows a.2))]
theorem g95_run (a_a:List (Int × Str)) (a_b:List (Int × Str)) :callFn (X g95_S) g95_tf (g95_E (a_a,a_b)) [] = (laws_eqPageS a_a a_b).map g95_O:=by
  rw [callFn_eq]
  simp (maxSteps:=2000000) (maxDischargeDepth:=8) -implicitDefEqProofs [g95_tf,laws_eqPageS,g95_E] <;> (try simp only [map_to_bind,some_elim,g95_O])
def g95_r:Rule:=RlO g95_E (fun a=>laws_eqPageS a.1 a.2) g95_O
theorem g95_ok:RuleOk Tryz.prog 36 g95_r:=ok_rlo (S:=g95_S) (tf:=g95_tf) (SysOk.on ⟨g113_ok,trivial⟩ trivial) (trE_ok (ks:=[[0,1,5],[8]]) Tryz.func36 (by kernel_rfl)) fun a=>g95_run a.1 a.2
@[simp] theorem g95_app (y0 y1):g95_r [(.vs (rows y0)),(.vs (rows y1))] = (laws_eqPageS y0 y1).map g95_O :=
  RlO_app (enc:=g95_E) (by intro a b h; simp [g95_E,Prod.ext_iff] at h ⊢; simp [h]) (y0,y1)
/-! laws.eqPager -/
def g96_tf:TFn:=⟨(sq [bx 2 0,bx 3 1,mk 4 (kb false)] [2,3] (.seq (sq [fa 5 0 2,ln 6 4 5,fa 7 0 3,ln 8 4 7,ca 9 34 [.t 6,.t 8],nt 10 9] [2,3,10] (.cond (.t 10) (.seq (.ops [mk 4 (kb false)]) (.keep (kp [(4,0)] [] 0) .ret)) .skip)) (.trim [2,3] (.seq (sq [fa 11 4 2,ln 12 4 11,fa 13 4 3,ln 14 4 13,ca 15 35 [.t 12,.t 14],nt 16 15] [2,3,16] (.cond (.t 16) (.seq (.ops [mk 4 (kb false)]) (.keep (kp [(4,0)] [] 0) .ret)) .skip)) (.trim [2,3] (.seq (sq [fa 17 8 2,ld 18 17,fa 19 8 3,ld 20 19,bn 21 .neq (.t 18) (.t 20)] [2,3,21] (.cond (.t 21) (.seq (.ops [mk 4 (kb false)]) (.keep (kp [(4,0)] [] 0) .ret)) .skip)) (.trim [2,3] (.seq (sq [fa 22 9 2,ld 23 22,fa 24 9 3,ld 25 24,bn 26 .neq (.t 23) (.t 25)] [2,3,26] (.cond (.t 26) (.seq (.ops [mk 4 (kb false)]) (.keep (kp [(4,0)] [] 0) .ret)) .skip)) (.trim [2,3] (.seq (sq [fa 27 10 2,ld 28 27,fa 29 10 3,ld 30 29,ca 31 36 [.t 28,.t 30],nt 32 31] [2,3,32] (.cond (.t 32) (.seq (.ops [mk 4 (kb false)]) (.keep (kp [(4,0)] [] 0) .ret)) .skip)) (.trim [2,3] (.seq (sq [fa 33 11 2,ld 34 33,fa 35 11 3,ld 36 35,ca 37 36 [.t 34,.t 36],nt 38 37] [38] (.cond (.t 38) (.seq (.ops [mk 4 (kb false)]) (.keep (kp [(4,0)] [] 0) .ret)) .skip)) (.trim [] (.seq (.ops [mk 4 (kb true)]) (.keep (kp [(4,0)] [] 0) .ret))))))))))))))),[.t 4]⟩
abbrev g96_S:=Sys.on [(34,g112_r),(35,g94_r),(36,g95_r)] []
def laws_eqPager (a_a:K1) (a_b:K1):Option (Bool):=(laws_eqDisk a_a.1 a_b.1).bind fun r1=>if ¬(r1 = true) then some false else (laws_eqSuper a_a.2.1 a_b.2.1).bind fun r2=>if ¬(r2 = true) then some false else if ¬(a_a.2.2.1 = a_b.2.2.1) then some false else if ¬(a_a.2.2.2.1 = a_b.2.2.2.1) then some false else (laws_eqPageS a_a.2.2.2.2.1 a_b.2.2.2.2.1).bind fun r3=>if ¬(r3 = true) then some false else (laws_eqPageS a_a.2.2.2.2.2 a_b.2.2.2.2.2).bind fun r4=>if ¬(r4 = true) then some false else some true
@[simp] def g96_O:Bool → TV × List Blk:=fun r=>((.bool r),[])
def g96_E (a:K1 × K1):List TV:=[(.agg [(.vs (rows a.1.1.1)),(.vs (rows a.1.1.2.1)),(.int .i64 a.1.1.2.2.1),(.bool a.1.1.2.2.2),(.int .i64 a.1.2.1.1),(.int .i64 a.1.2.1.2.1),(.int .i64 a.1.2.1.2.2.1),(.int .i64 a.1.2.1.2.2.2),(.int .i64 a.1.2.2.1),(.int .i64 a.1.2.2.2.1),(.vs (rows a.1.2.2.2.2.1)),(.vs (rows a.1.2.2.2.2.2))]),(.agg [(.vs (rows a.2.1.1)),(.vs (rows a.2.1.2.1)),(.int .i64 a.2.1.2.2.1),(.bool a.2.1.2.2.2),(.int .i64 a.2.2.1.1),(.int .i64 a.2.2.1.2.1),(.int .i64 a.2.2.1.2.2.1),(.int .i64 a.2.2.1.2.2.2),(.int .i64 a.2.2.2.1),(.int .i64 a.2.2.2.2.1),(.vs (rows a.2.2.2.2.2.1)),(.vs (rows a.2.2.2.2.2.2))])]
theorem g96_run (a_a:K1) (a_b:K1) :callFn (X g96_S) g96_tf (g96_E (a_a,a_b)) [] = (laws_eqPager a_a a_b).map g96_O:=by
  rw [callFn_eq]
  simp (maxSteps:=2000000) (maxDischargeDepth:=8) -implicitDefEqProofs [g96_tf,laws_eqPager,g96_E] <;> (try simp only [map_to_bind,some_elim,g96_O])
def g96_r:Rule:=RlO g96_E (fun a=>laws_eqPager a.1 a.2) g96_O
theorem g96_ok:RuleOk Tryz.prog 11 g96_r:=ok_rlo (S:=g96_S) (tf:=g96_tf) (SysOk.on ⟨g112_ok,g94_ok,g95_ok,trivial⟩ trivial) (trE_ok (ks:=[]) Tryz.func11 (by kernel_rfl)) fun a=>g96_run a.1 a.2
@[simp] theorem g96_app (y0 y1 y2 y3 y4 y5 y6 y7 y8 y9 y10 y11 y12 y13 y14 y15 y16 y17 y18 y19 y20 y21 y22 y23):g96_r [(.agg [(.vs (rows y0)),(.vs (rows y1)),(.int .i64 y2),(.bool y3),(.int .i64 y4),(.int .i64 y5),(.int .i64 y6),(.int .i64 y7),(.int .i64 y8),(.int .i64 y9),(.vs (rows y10)),(.vs (rows y11))]),(.agg [(.vs (rows y12)),(.vs (rows y13)),(.int .i64 y14),(.bool y15),(.int .i64 y16),(.int .i64 y17),(.int .i64 y18),(.int .i64 y19),(.int .i64 y20),(.int .i64 y21),(.vs (rows y22)),(.vs (rows y23))])] = (laws_eqPager (((y0,y1,y2,y3),(y4,y5,y6,y7),y8,y9,y10,y11)) (((y12,y13,y14,y15),(y16,y17,y18,y19),y20,y21,y22,y23))).map g96_O :=
  RlO_app (enc:=g96_E) (by intro a b h; simp [g96_E,Prod.ext_iff] at h ⊢; simp [h]) (((y0,y1,y2,y3),(y4,y5,y6,y7),y8,y9,y10,y11),((y12,y13,y14,y15),(y16,y17,y18,y19),y20,y21,y22,y23))
/-! laws.markText -/
def g76l1_cb:TC:=(.seq (sq [mo 6 0,bn 7 .gtr (.t 6) (ki 0)] [0,3,7] (.cond (.t 7) .skip (.keep (kp [(3,0)] [] 0) (.exit 0)))) (.trim [0,3] (.block 1 (sq [mo 8 0,bn 9 .rem (.t 8) (ki 10),bn 10 .add (ki 48) (.t 9),oo 11 (.conv (.toInt .u8) (.t 10)),oo 12 (.bslice [(.int .u8 0)] 1 [(0,(.t 11))]),oo 13 (.conv .toStr (.t 12)),mo 14 3,oo 15 (.bin .str .add (.t 13) (.t 14)),mo 3 15] [0,3] (.after (.ops [mo 16 0,bn 17 .quo (.t 16) (ki 10),mo 0 17]) (kp [(0,0),(3,0)] [] 0))))))
def g76l1_c:TC:=.loop [0,3] g76l1_cb
def g76_tf:TFn:=⟨(sq [mk 2 (.c (.str []))] [0] (.seq (sq [mo 4 0,bn 5 .leq (.t 4) (ki 0)] [0,5] (.cond (.t 5) (.seq (.ops [mk 2 (.c (.str [109,48]))]) (.keep (kp [(2,0)] [] 0) .ret)) .skip)) (.trim [0] (sq [mk 3 (.c (.str []))] [0,3] (.seq (.block 0 (.keep (kp [(0,0),(3,0)] [] 0) g76l1_c)) (.trim [3] (.seq (.ops [mo 18 3,oo 19 (.bin .str .add (.c (.str [109])) (.t 18)),mo 2 19]) (.keep (kp [(2,0)] [] 0) .ret)))))))),[.t 2]⟩
abbrev g76_S:=Sys.on [] []
@[reducible,simp] def g76l1_F:Str → Out:=(fun t=>(.ext 0,[(3,(.str t))],[]))
def laws_markText_l1_b (v1:Int) (v2:Str):Option ((Int × Str) ⊕ (Str)):=if v1 > 0 then if ((((lit [(⟨UInt8.ofNat ((IntKind.u8.wrap ((IntKind.i64.wrap (48 + (Int.tmod v1 10)))))).toNat⟩:Bt)]:List Bt)).map Bt.v)).length + v2.length ≤ 9223372036854775807 then some (.inl ((IntKind.i64.wrap (Int.tdiv v1 10)),((((lit [(⟨UInt8.ofNat ((IntKind.u8.wrap ((IntKind.i64.wrap (48 + (Int.tmod v1 10)))))).toNat⟩:Bt)]:List Bt)).map Bt.v) ++ v2))) else none else some (.inr v2)
theorem g76l1_b_eq  (v1:Int) (v2:Str):X g76_S g76l1_cb (keepEnv [0,3] [(0,(.int .i64 v1)),(3,(.str v2))]) [] = (laws_markText_l1_b v1 v2).map (Sum.elim (fun s=>(TX.nrm,[(0,(.int .i64 s.1)),(3,(.str s.2))],[])) g76l1_F):=by
  simp (maxSteps:=2000000) (maxDischargeDepth:=8) -implicitDefEqProofs [g76l1_cb,laws_markText_l1_b,bslV_lit (α:=Bt) (zs:=[(.int .u8 0)])] <;> (try simp only [map_to_bind,some_elim,g76l1_F])
def laws_markText_l1  (s:Int × Str):Option (Str):=loopO (fun s=>laws_markText_l1_b  s.1 s.2) s
@[simp] theorem g76l1_eq (y0 y1):X g76_S g76l1_c [(0,(.int .i64 y0)),(3,(.str y1))] [] = (laws_markText_l1  (y0,y1)).map g76l1_F:=by
  exact loop_X _ _ _ _ (by intro r; first | (simp; done) | (rcases r with r | r <;> simp; done) | (rcases r with r | r | r <;> simp; done) | (rcases r with r | r | r | r <;> simp)) (fun s=>g76l1_b_eq   s.1 s.2) (y0,y1)
def laws_markText (a_k:Int):Option (Str):=if a_k ≤ 0 then some (([109,48]:Str)) else (laws_markText_l1 ((a_k,([]:Str)))).bind fun r3=>if (([109]:Str)).length + r3.length ≤ 9223372036854775807 then some ((([109]:Str) ++ r3)) else none
@[simp] def g76_O:Str → TV × List Blk:=fun r=>((.str r),[])
def g76_E (a:Int):List TV:=[(.int .i64 a)]
theorem g76_run (a_k:Int) :callFn (X g76_S) g76_tf (g76_E a_k) [] = (laws_markText a_k).map g76_O:=by
  rw [callFn_eq]
  simp (maxSteps:=2000000) (maxDischargeDepth:=8) -implicitDefEqProofs [g76_tf,laws_markText,g76_E,bslV_lit (α:=Bt) (zs:=[(.int .u8 0)])] <;> (try simp only [map_to_bind,some_elim,g76_O])
def g76_r:Rule:=RlO g76_E (fun a=>laws_markText a) g76_O
theorem g76_ok:RuleOk Tryz.prog 83 g76_r:=ok_rlo (S:=g76_S) (tf:=g76_tf) (SysOk.on trivial trivial) (trE_ok (ks:=[[0,3]]) Tryz.func83 (by kernel_rfl)) fun a=>g76_run a
@[simp] theorem g76_app (y0):g76_r [(.int .i64 y0)] = (laws_markText y0).map g76_O :=
  RlO_app (enc:=g76_E) (by intro a b h; simp [g76_E,Prod.ext_iff] at h ⊢; simp [h]) y0
/-! laws.markStringS -/
def g21l1_cb:TC:=(.seq (sq [mo 6 5,mo 7 0,le 8 7,bn 9 .lss (.t 6) (.t 8)] [0,1,5,9] (.cond (.t 9) .skip (.keep (kp [(1,0)] [(0,1)] 1) (.exit 0)))) (.trim [0,1,5] (.seq (.block 1 (sq [mo 12 0,mo 13 5,mo 14 1,ca 15 83 [.t 14],ia 16 1 12 13,⟨none,none,(.store 1 (.t 16) (.t 15))⟩] [0,1,5] (.ops [mo 17 1,bn 18 .add (.t 17) (ki 1),mo 1 18]))) (.trim [0,1,5] (.after (.ops [mo 10 5,bn 11 .add (.t 10) (ki 1),mo 5 11]) (kp [(0,0),(1,0),(5,0)] [(0,1)] 1))))))
def g21l1_c:TC:=.loop [0,1,5] g21l1_cb
def g21_tf:TFn:=⟨(sq [mk 4 (ki 0)] [0,1] (.seq (sq [mk 5 (ki 0)] [0,1,5] (.block 0 (.keep (kp [(0,0),(1,0),(5,0)] [(0,1)] 1) g21l1_c))) (.trim [1] (.seq (.ops [mo 19 1,mo 4 19]) (.keep (kp [(4,0)] [(0,1)] 1) .ret))))),[.t 4]⟩
abbrev g21_S:=Sys.on [(83,g76_r)] []
@[reducible,simp] def g21l1_F:(List Str × Int) → Out:=(fun t=>(.ext 0,[(1,(.int .i64 t.2))],[(ob 1 t.1)]))
def laws_markStringS_o35_l1_b (v1:List Str) (v2:Int) (v3:Int):Option ((List Str × Int × Int) ⊕ (List Str × Int)):=if v3 < ((v1.length:Nat):Int) then (laws_markText v2).bind fun r4=>if 0 ≤ v3 ∧ v3 < ((v1.length:Nat):Int) then (v1[(v3).toNat]?).bind fun x5=>some (.inl ((v1.set (v3).toNat r4),(IntKind.i64.wrap (v2 + 1)),(IntKind.i64.wrap (v3 + 1)))) else none else some (.inr (v1,v2))
theorem g21l1_b_eq  (v1:List Str) (v2:Int) (v3:Int):X g21_S g21l1_cb (keepEnv [0,1,5] [(0,(ow 0 v1.length)),(1,(.int .i64 v2)),(5,(.int .i64 v3))]) [(ob 1 v1)] = (laws_markStringS_o35_l1_b v1 v2 v3).map (Sum.elim (fun s=>(TX.nrm,[(0,(ow 0 s.1.length)),(1,(.int .i64 s.2.1)),(5,(.int .i64 s.2.2))],[(ob 1 s.1)])) g21l1_F):=by
  simp (maxSteps:=2000000) (maxDischargeDepth:=8) -implicitDefEqProofs [g21l1_cb,laws_markStringS_o35_l1_b] <;> (try simp only [map_to_bind,some_elim,g21l1_F])
def laws_markStringS_o35_l1  (s:List Str × Int × Int):Option (List Str × Int):=loopO (fun s=>laws_markStringS_o35_l1_b  s.1 s.2.1 s.2.2) s
@[simp] theorem g21l1_eq (y0:List Str)(y1 y2){n1:Nat}(h1:n1 = y0.length):X g21_S g21l1_c [(0,(ow 0 n1)),(1,(.int .i64 y1)),(5,(.int .i64 y2))] [(ob 1 y0)] = (laws_markStringS_o35_l1  (y0,y1,y2)).map g21l1_F:=by
  subst h1
  exact loop_X _ _ _ _ (by intro r; first | (simp; done) | (rcases r with r | r <;> simp; done) | (rcases r with r | r | r <;> simp; done) | (rcases r with r | r | r | r <;> simp)) (fun s=>g21l1_b_eq   s.1 s.2.1 s.2.2) (y0,y1,y2)
def laws_markStringS_o35 (a1:List Str) (a2:Int):Option (List Str × Int):=(laws_markStringS_o35_l1 ((a1,a2,0))).bind fun r6=>some (r6.1,r6.2)
@[simp] def g21_O:(List Str × Int) → TV × List Blk:=fun r=>((.int .i64 r.2),[(ob 1 r.1)])
abbrev g21_T:=List Str × Int
def g21_E (a:g21_T):List TV:=[(ow 0 a.1.length),(.int .i64 a.2)]
def g21_B (a:g21_T):List Blk:=[(ob 1 a.1)]
theorem g21_run (a1:List Str) (a2:Int) :callFn (X g21_S) g21_tf (g21_E (a1,a2)) (g21_B (a1,a2)) = (laws_markStringS_o35 a1 a2).map g21_O:=by
  rw [callFn_eq]
  simp (maxSteps:=2000000) (maxDischargeDepth:=8) -implicitDefEqProofs [g21_tf,laws_markStringS_o35,g21_E,g21_B] <;> (try simp only [map_to_bind,some_elim,g21_O])
def g21_r:MRule:=RmO g21_E g21_B (fun a=>(laws_markStringS_o35 a.1 a.2).bind fun r=>if r.1.length = a.1.length then some ((fixLen a.1 r.1),r.2) else none) g21_O
theorem g21_ok0:MRuleOk Tryz.prog 81 1 (RmO g21_E g21_B (fun a=>laws_markStringS_o35 a.1 a.2) g21_O):=ok_rmo (S:=g21_S) (tf:=g21_tf) (SysOk.on ⟨g76_ok,trivial⟩ trivial) (trE_ok (ks:=[[0,1,5]]) Tryz.func81 (by kernel_rfl)) (by rfl) (fun _=>by simp [g21_B]) (fun _=>by simp) fun a=>g21_run a.1 a.2
theorem g21_ok:MRuleOk Tryz.prog 81 1 g21_r:=g21_ok0.weak fun a r hr=>by
  simp only [Option.bind_eq_some_iff] at hr
  obtain ⟨x,h1,h2⟩:=hr
  split at h2
  · rename_i hc
    simp only [Option.some.injEq] at h2
    rw [h1,← h2]
    simp [fixLen,hc]
  · cases h2
@[simp] theorem g21_app (y0:List Str)(y1){n1:Nat}(h1:n1 = y0.length):g21_r [(ow 0 n1),(.int .i64 y1)] [(ob 1 y0)] = ((laws_markStringS_o35 y0 y1).bind fun r=>if r.1.length = y0.length then some ((fixLen y0 r.1),r.2) else none).map g21_O:=by
  subst h1
  exact RmO_app (enc:=g21_E) (encB:=g21_B) (by intro a b h h2; simp [g21_E,g21_B,Prod.ext_iff] at h h2 ⊢; simp [h,h2]) (y0,y1)
/-! laws.markPutS -/
def g34l1_cb:TC:=(.seq (sq [mo 6 5,mo 7 0,le 8 7,bn 9 .lss (.t 6) (.t 8)] [0,1,5,9] (.cond (.t 9) .skip (.keep (kp [(1,0)] [(0,1)] 1) (.exit 0)))) (.trim [0,1,5] (.seq (.block 1 (sq [mo 12 0,mo 13 5,mo 14 1,ia 15 2 12 13,fa 16 0 15,⟨none,none,(.store 1 (.t 16) (.t 14))⟩] [0,1,5] (sq [mo 17 1,bn 18 .add (.t 17) (ki 1),mo 1 18] [0,1,5] (sq [mo 19 0,mo 20 5,mo 21 1,ca 22 83 [.t 21],ia 23 2 19 20,fa 24 1 23,⟨none,none,(.store 1 (.t 24) (.t 22))⟩] [0,1,5] (.ops [mo 25 1,bn 26 .add (.t 25) (ki 1),mo 1 26]))))) (.trim [0,1,5] (.after (.ops [mo 10 5,bn 11 .add (.t 10) (ki 1),mo 5 11]) (kp [(0,0),(1,0),(5,0)] [(0,1)] 1))))))
def g34l1_c:TC:=.loop [0,1,5] g34l1_cb
def g34_tf:TFn:=⟨(sq [mk 4 (ki 0)] [0,1] (.seq (sq [mk 5 (ki 0)] [0,1,5] (.block 0 (.keep (kp [(0,0),(1,0),(5,0)] [(0,1)] 1) g34l1_c))) (.trim [1] (.seq (.ops [mo 27 1,mo 4 27]) (.keep (kp [(4,0)] [(0,1)] 1) .ret))))),[.t 4]⟩
abbrev g34_S:=Sys.on [(83,g76_r)] []
@[reducible,simp] def g34l1_F:((List (Int × Str)) × Int) → Out:=(fun t=>(.ext 0,[(1,(.int .i64 t.2))],[(ob 2 t.1)]))
def laws_markPutS_o2a_l1_b (v1:List (Int × Str)) (v2:Int) (v3:Int):Option (((List (Int × Str)) × Int × Int) ⊕ ((List (Int × Str)) × Int)):=if v3 < ((v1.length:Nat):Int) then if 0 ≤ v3 ∧ v3 < ((v1.length:Nat):Int) then (v1[(v3).toNat]?).bind fun x4=>(laws_markText ((IntKind.i64.wrap (v2 + 1)))).bind fun r5=>if 0 ≤ v3 ∧ v3 < ((v1.length:Nat):Int) then (((v1.set (v3).toNat (v2,x4.2)))[(v3).toNat]?).bind fun x6=>some (.inl ((((v1.set (v3).toNat (v2,x4.2))).set (v3).toNat (x6.1,r5)),(IntKind.i64.wrap ((IntKind.i64.wrap (v2 + 1)) + 1)),(IntKind.i64.wrap (v3 + 1)))) else none else none else some (.inr (v1,v2))
theorem g34l1_b_eq  (v1:List (Int × Str)) (v2:Int) (v3:Int):X g34_S g34l1_cb (keepEnv [0,1,5] [(0,(ow 0 v1.length)),(1,(.int .i64 v2)),(5,(.int .i64 v3))]) [(ob 2 v1)] = (laws_markPutS_o2a_l1_b v1 v2 v3).map (Sum.elim (fun s=>(TX.nrm,[(0,(ow 0 s.1.length)),(1,(.int .i64 s.2.1)),(5,(.int .i64 s.2.2))],[(ob 2 s.1)])) g34l1_F):=by
  simp (maxSteps:=2000000) (maxDischargeDepth:=8) -implicitDefEqProofs [g34l1_cb,laws_markPutS_o2a_l1_b] <;> (try simp only [map_to_bind,some_elim,g34l1_F])
def laws_markPutS_o2a_l1  (s:(List (Int × Str)) × Int × Int):Option ((List (Int × Str)) × Int):=loopO (fun s=>laws_markPutS_o2a_l1_b  s.1 s.2.1 s.2.2) s
@[simp] theorem g34l1_eq (y0:List (Int × Str))(y1 y2){n1:Nat}(h1:n1 = y0.length):X g34_S g34l1_c [(0,(ow 0 n1)),(1,(.int .i64 y1)),(5,(.int .i64 y2))] [(ob 2 y0)] = (laws_markPutS_o2a_l1  (y0,y1,y2)).map g34l1_F:=by
  subst h1
  exact loop_X _ _ _ _ (by intro r; first | (simp; done) | (rcases r with r | r <;> simp; done) | (rcases r with r | r | r <;> simp; done) | (rcases r with r | r | r | r <;> simp)) (fun s=>g34l1_b_eq   s.1 s.2.1 s.2.2) (y0,y1,y2)
def laws_markPutS_o2a (a1:List (Int × Str)) (a2:Int):Option ((List (Int × Str)) × Int):=(laws_markPutS_o2a_l1 ((a1,a2,0))).bind fun r7=>some (r7.1,r7.2)
@[simp] def g34_O:((List (Int × Str)) × Int) → TV × List Blk:=fun r=>((.int .i64 r.2),[(ob 2 r.1)])
abbrev g34_T:=(List (Int × Str)) × Int
def g34_E (a:g34_T):List TV:=[(ow 0 a.1.length),(.int .i64 a.2)]
def g34_B (a:g34_T):List Blk:=[(ob 2 a.1)]
theorem g34_run (a1:List (Int × Str)) (a2:Int) :callFn (X g34_S) g34_tf (g34_E (a1,a2)) (g34_B (a1,a2)) = (laws_markPutS_o2a a1 a2).map g34_O:=by
  rw [callFn_eq]
  simp (maxSteps:=2000000) (maxDischargeDepth:=8) -implicitDefEqProofs [g34_tf,laws_markPutS_o2a,g34_E,g34_B] <;> (try simp only [map_to_bind,some_elim,g34_O])
def g34_r:MRule:=RmO g34_E g34_B (fun a=>(laws_markPutS_o2a a.1 a.2).bind fun r=>if r.1.length = a.1.length then some ((fixLen a.1 r.1),r.2) else none) g34_O
theorem g34_ok0:MRuleOk Tryz.prog 82 1 (RmO g34_E g34_B (fun a=>laws_markPutS_o2a a.1 a.2) g34_O):=ok_rmo (S:=g34_S) (tf:=g34_tf) (SysOk.on ⟨g76_ok,trivial⟩ trivial) (trE_ok (ks:=[[0,1,5]]) Tryz.func82 (by kernel_rfl)) (by rfl) (fun _=>by simp [g34_B]) (fun _=>by simp) fun a=>g34_run a.1 a.2
theorem g34_ok:MRuleOk Tryz.prog 82 1 g34_r:=g34_ok0.weak fun a r hr=>by
  simp only [Option.bind_eq_some_iff] at hr
  obtain ⟨x,h1,h2⟩:=hr
  split at h2
  · rename_i hc
    simp only [Option.some.injEq] at h2
    rw [h1,← h2]
    simp [fixLen,hc]
  · cases h2
@[simp] theorem g34_app (y0:List (Int × Str))(y1){n1:Nat}(h1:n1 = y0.length):g34_r [(ow 0 n1),(.int .i64 y1)] [(ob 2 y0)] = ((laws_markPutS_o2a y0 y1).bind fun r=>if r.1.length = y0.length then some ((fixLen y0 r.1),r.2) else none).map g34_O:=by
  subst h1
  exact RmO_app (enc:=g34_E) (encB:=g34_B) (by intro a b h h2; simp [g34_E,g34_B,Prod.ext_iff] at h h2 ⊢; simp [h,h2]) (y0,y1)
/-! laws.markDisk -/
def g35_tf:TFn:=⟨(sq [bx 2 0,mk 4 (ki 0)] [1,2] (sq [fa 5 0 2,ld 6 5,mo 7 1,oo 8 (.callM 81 0 [0] [.t 6,.t 7]),mo 1 8] [1,2] (sq [fa 9 1 2,ld 10 9,mo 11 1,oo 12 (.callM 82 0 [1] [.t 10,.t 11]),mo 1 12] [1] (.seq (.ops [mo 13 1,mo 4 13]) (.keep (kp [(4,0)] [(0,1),(1,1)] 2) .ret))))),[.t 4]⟩
abbrev g35_S:=Sys.on [] [((81,0),(1,g21_r)),((82,0),(1,g34_r))]
def laws_markDisk_o3e (a1:List Str) (a2:List (Int × Str)) (a3:Int) (a4:Bool) (a5:Int):Option (List Str × (List (Int × Str)) × Int):=(laws_markStringS_o35 a1 a5).bind fun r1=>if r1.1.length = a1.length then (laws_markPutS_o2a a2 r1.2).bind fun r2=>if r2.1.length = a2.length then some ((fixLen a1 r1.1),(fixLen a2 r2.1),r2.2) else none else none
@[simp] def g35_O:(List Str × (List (Int × Str)) × Int) → TV × List Blk:=fun r=>((.int .i64 r.2.2),[(ob 1 r.1),(ob 2 r.2.1)])
abbrev g35_T:=List Str × (List (Int × Str)) × Int × Bool × Int
def g35_E (a:g35_T):List TV:=[(.agg [(ow 0 a.1.length),(ow 1 a.2.1.length),(.int .i64 a.2.2.1),(.bool a.2.2.2.1)]),(.int .i64 a.2.2.2.2)]
def g35_B (a:g35_T):List Blk:=[(ob 1 a.1),(ob 2 a.2.1)]
theorem g35_run (a1:List Str) (a2:List (Int × Str)) (a3:Int) (a4:Bool) (a5:Int) :callFn (X g35_S) g35_tf (g35_E (a1,a2,a3,a4,a5)) (g35_B (a1,a2,a3,a4,a5)) = (laws_markDisk_o3e a1 a2 a3 a4 a5).map g35_O:=by
  rw [callFn_eq]
  simp (maxSteps:=2000000) (maxDischargeDepth:=8) -implicitDefEqProofs [g35_tf,laws_markDisk_o3e,g35_E,g35_B] <;> (try simp only [map_to_bind,some_elim,g35_O])
def g35_r:MRule:=RmO g35_E g35_B (fun a=>(laws_markDisk_o3e a.1 a.2.1 a.2.2.1 a.2.2.2.1 a.2.2.2.2).bind fun r=>if r.1.length = a.1.length ∧ r.2.1.length = a.2.1.length then some ((fixLen a.1 r.1),(fixLen a.2.1 r.2.1),r.2.2) else none) g35_O
theorem g35_ok0:MRuleOk Tryz.prog 38 2 (RmO g35_E g35_B (fun a=>laws_markDisk_o3e a.1 a.2.1 a.2.2.1 a.2.2.2.1 a.2.2.2.2) g35_O):=ok_rmo (S:=g35_S) (tf:=g35_tf) (SysOk.on trivial ⟨g21_ok,g34_ok,trivial⟩) (trE_ok (ks:=[]) Tryz.func38 (by kernel_rfl)) (by rfl) (fun _=>by simp [g35_B]) (fun _=>by simp) fun a=>g35_run a.1 a.2.1 a.2.2.1 a.2.2.2.1 a.2.2.2.2
theorem g35_ok:MRuleOk Tryz.prog 38 2 g35_r:=g35_ok0.weak fun a r hr=>by
  simp only [Option.bind_eq_some_iff] at hr
  obtain ⟨x,h1,h2⟩:=hr
  split at h2
  · rename_i hc
    simp only [Option.some.injEq] at h2
    rw [h1,← h2]
    simp [fixLen,hc]
  · cases h2
@[simp] theorem g35_app (y0:List Str)(y1:List (Int × Str))(y2 y3 y4){n1:Nat}(h1:n1 = y0.length){n2:Nat}(h2:n2 = y1.length):g35_r [(.agg [(ow 0 n1),(ow 1 n2),(.int .i64 y2),(.bool y3)]),(.int .i64 y4)] [(ob 1 y0),(ob 2 y1)] = ((laws_markDisk_o3e y0 y1 y2 y3 y4).bind fun r=>if r.1.length = y0.length ∧ r.2.1.length = y1.length then some ((fixLen y0 r.1),(fixLen y1 r.2.1),r.2.2) else none).map g35_O:=by
  subst h1 h2
  exact RmO_app (enc:=g35_E) (encB:=g35_B) (by intro a b h h2; simp [g35_E,g35_B,Prod.ext_iff] at h h2 ⊢; simp [h,h2]) (y0,y1,y2,y3,y4)
/-! laws.markPageS -/
def g26l1_cb:TC:=(.seq (sq [mo 6 5,mo 7 0,le 8 7,bn 9 .lss (.t 6) (.t 8)] [0,1,5,9] (.cond (.t 9) .skip (.keep (kp [(1,0)] [(0,1)] 1) (.exit 0)))) (.trim [0,1,5] (.seq (.block 1 (sq [mo 12 0,mo 13 5,mo 14 1,ia 15 2 12 13,fa 16 0 15,⟨none,none,(.store 1 (.t 16) (.t 14))⟩] [0,1,5] (sq [mo 17 1,bn 18 .add (.t 17) (ki 1),mo 1 18] [0,1,5] (sq [mo 19 0,mo 20 5,mo 21 1,ca 22 83 [.t 21],ia 23 2 19 20,fa 24 1 23,⟨none,none,(.store 1 (.t 24) (.t 22))⟩] [0,1,5] (.ops [mo 25 1,bn 26 .add (.t 25) (ki 1),mo 1 26]))))) (.trim [0,1,5] (.after (.ops [mo 10 5,bn 11 .add (.t 10) (ki 1),mo 5 11]) (kp [(0,0),(1,0),(5,0)] [(0,1)] 1))))))
def g26l1_c:TC:=.loop [0,1,5] g26l1_cb
def g26_tf:TFn:=⟨(sq [mk 4 (ki 0)] [0,1] (.seq (sq [mk 5 (ki 0)] [0,1,5] (.block 0 (.keep (kp [(0,0),(1,0),(5,0)] [(0,1)] 1) g26l1_c))) (.trim [1] (.seq (.ops [mo 27 1,mo 4 27]) (.keep (kp [(4,0)] [(0,1)] 1) .ret))))),[.t 4]⟩
abbrev g26_S:=Sys.on [(83,g76_r)] []
@[reducible,simp] def g26l1_F:((List (Int × Str)) × Int) → Out:=(fun t=>(.ext 0,[(1,(.int .i64 t.2))],[(ob 2 t.1)]))
def laws_markPageS_o2a_l1_b (v1:List (Int × Str)) (v2:Int) (v3:Int):Option (((List (Int × Str)) × Int × Int) ⊕ ((List (Int × Str)) × Int)):=if v3 < ((v1.length:Nat):Int) then if 0 ≤ v3 ∧ v3 < ((v1.length:Nat):Int) then (v1[(v3).toNat]?).bind fun x4=>(laws_markText ((IntKind.i64.wrap (v2 + 1)))).bind fun r5=>if 0 ≤ v3 ∧ v3 < ((v1.length:Nat):Int) then (((v1.set (v3).toNat (v2,x4.2)))[(v3).toNat]?).bind fun x6=>some (.inl ((((v1.set (v3).toNat (v2,x4.2))).set (v3).toNat (x6.1,r5)),(IntKind.i64.wrap ((IntKind.i64.wrap (v2 + 1)) + 1)),(IntKind.i64.wrap (v3 + 1)))) else none else none else some (.inr (v1,v2))
theorem g26l1_b_eq  (v1:List (Int × Str)) (v2:Int) (v3:Int):X g26_S g26l1_cb (keepEnv [0,1,5] [(0,(ow 0 v1.length)),(1,(.int .i64 v2)),(5,(.int .i64 v3))]) [(ob 2 v1)] = (laws_markPageS_o2a_l1_b v1 v2 v3).map (Sum.elim (fun s=>(TX.nrm,[(0,(ow 0 s.1.length)),(1,(.int .i64 s.2.1)),(5,(.int .i64 s.2.2))],[(ob 2 s.1)])) g26l1_F):=by
  simp (maxSteps:=2000000) (maxDischargeDepth:=8) -implicitDefEqProofs [g26l1_cb,laws_markPageS_o2a_l1_b] <;> (try simp only [map_to_bind,some_elim,g26l1_F])
def laws_markPageS_o2a_l1  (s:(List (Int × Str)) × Int × Int):Option ((List (Int × Str)) × Int):=loopO (fun s=>laws_markPageS_o2a_l1_b  s.1 s.2.1 s.2.2) s
@[simp] theorem g26l1_eq (y0:List (Int × Str))(y1 y2){n1:Nat}(h1:n1 = y0.length):X g26_S g26l1_c [(0,(ow 0 n1)),(1,(.int .i64 y1)),(5,(.int .i64 y2))] [(ob 2 y0)] = (laws_markPageS_o2a_l1  (y0,y1,y2)).map g26l1_F:=by
  subst h1
  exact loop_X _ _ _ _ (by intro r; first | (simp; done) | (rcases r with r | r <;> simp; done) | (rcases r with r | r | r <;> simp; done) | (rcases r with r | r | r | r <;> simp)) (fun s=>g26l1_b_eq   s.1 s.2.1 s.2.2) (y0,y1,y2)
def laws_markPageS_o2a (a1:List (Int × Str)) (a2:Int):Option ((List (Int × Str)) × Int):=(laws_markPageS_o2a_l1 ((a1,a2,0))).bind fun r7=>some (r7.1,r7.2)
@[simp] def g26_O:((List (Int × Str)) × Int) → TV × List Blk:=fun r=>((.int .i64 r.2),[(ob 2 r.1)])
abbrev g26_T:=(List (Int × Str)) × Int
def g26_E (a:g26_T):List TV:=[(ow 0 a.1.length),(.int .i64 a.2)]
def g26_B (a:g26_T):List Blk:=[(ob 2 a.1)]
theorem g26_run (a1:List (Int × Str)) (a2:Int) :callFn (X g26_S) g26_tf (g26_E (a1,a2)) (g26_B (a1,a2)) = (laws_markPageS_o2a a1 a2).map g26_O:=by
  rw [callFn_eq]
  simp (maxSteps:=2000000) (maxDischargeDepth:=8) -implicitDefEqProofs [g26_tf,laws_markPageS_o2a,g26_E,g26_B] <;> (try simp only [map_to_bind,some_elim,g26_O])
def g26_r:MRule:=RmO g26_E g26_B (fun a=>(laws_markPageS_o2a a.1 a.2).bind fun r=>if r.1.length = a.1.length then some ((fixLen a.1 r.1),r.2) else none) g26_O
theorem g26_ok0:MRuleOk Tryz.prog 39 1 (RmO g26_E g26_B (fun a=>laws_markPageS_o2a a.1 a.2) g26_O):=ok_rmo (S:=g26_S) (tf:=g26_tf) (SysOk.on ⟨g76_ok,trivial⟩ trivial) (trE_ok (ks:=[[0,1,5]]) Tryz.func39 (by kernel_rfl)) (by rfl) (fun _=>by simp [g26_B]) (fun _=>by simp) fun a=>g26_run a.1 a.2
theorem g26_ok:MRuleOk Tryz.prog 39 1 g26_r:=g26_ok0.weak fun a r hr=>by
  simp only [Option.bind_eq_some_iff] at hr
  obtain ⟨x,h1,h2⟩:=hr
  split at h2
  · rename_i hc
    simp only [Option.some.injEq] at h2
    rw [h1,← h2]
    simp [fixLen,hc]
  · cases h2
@[simp] theorem g26_app (y0:List (Int × Str))(y1){n1:Nat}(h1:n1 = y0.length):g26_r [(ow 0 n1),(.int .i64 y1)] [(ob 2 y0)] = ((laws_markPageS_o2a y0 y1).bind fun r=>if r.1.length = y0.length then some ((fixLen y0 r.1),r.2) else none).map g26_O:=by
  subst h1
  exact RmO_app (enc:=g26_E) (encB:=g26_B) (by intro a b h h2; simp [g26_E,g26_B,Prod.ext_iff] at h h2 ⊢; simp [h,h2]) (y0,y1)
/-! laws.markPager -/
def g27_tf:TFn:=⟨(sq [bx 2 0,mk 4 (ki 0)] [1,2] (sq [fa 5 0 2,ln 6 4 5,mo 7 1,oo 8 (.callM 38 0 [0,1] [.t 6,.t 7]),mo 1 8] [1,2] (sq [fa 9 10 2,ld 10 9,mo 11 1,oo 12 (.callM 39 0 [2] [.t 10,.t 11]),mo 1 12] [1,2] (sq [fa 13 11 2,ld 14 13,mo 15 1,oo 16 (.callM 39 0 [3] [.t 14,.t 15]),mo 1 16] [1] (.seq (.ops [mo 17 1,mo 4 17]) (.keep (kp [(4,0)] [(0,1),(1,1),(2,1),(3,1)] 4) .ret)))))),[.t 4]⟩
abbrev g27_S:=Sys.on [] [((38,0),(2,g35_r)),((39,0),(1,g26_r))]
def laws_markPager_o71 (a1:List Str) (a2:List (Int × Str)) (a3:Int) (a4:Bool) (a5:Int) (a6:Int) (a7:Int) (a8:Int) (a9:Int) (a10:Int) (a11:List (Int × Str)) (a12:List (Int × Str)) (a13:Int):Option (List Str × (List (Int × Str)) × (List (Int × Str)) × (List (Int × Str)) × Int):=(laws_markDisk_o3e a1 a2 a3 a4 a13).bind fun r1=>if r1.1.length = a1.length ∧ r1.2.1.length = a2.length then (laws_markPageS_o2a a11 r1.2.2).bind fun r2=>if r2.1.length = a11.length then (laws_markPageS_o2a a12 r2.2).bind fun r3=>if r3.1.length = a12.length then some ((fixLen a1 r1.1),(fixLen a2 r1.2.1),(fixLen a11 r2.1),(fixLen a12 r3.1),r3.2) else none else none else none
@[simp] def g27_O:(List Str × (List (Int × Str)) × (List (Int × Str)) × (List (Int × Str)) × Int) → TV × List Blk:=fun r=>((.int .i64 r.2.2.2.2),[(ob 1 r.1),(ob 2 r.2.1),(ob 2 r.2.2.1),(ob 2 r.2.2.2.1)])
abbrev g27_T:=List Str × (List (Int × Str)) × Int × Bool × Int × Int × Int × Int × Int × Int × (List (Int × Str)) × (List (Int × Str)) × Int
def g27_E (a:g27_T):List TV:=[(.agg [(ow 0 a.1.length),(ow 1 a.2.1.length),(.int .i64 a.2.2.1),(.bool a.2.2.2.1),(.int .i64 a.2.2.2.2.1),(.int .i64 a.2.2.2.2.2.1),(.int .i64 a.2.2.2.2.2.2.1),(.int .i64 a.2.2.2.2.2.2.2.1),(.int .i64 a.2.2.2.2.2.2.2.2.1),(.int .i64 a.2.2.2.2.2.2.2.2.2.1),(ow 2 a.2.2.2.2.2.2.2.2.2.2.1.length),(ow 3 a.2.2.2.2.2.2.2.2.2.2.2.1.length)]),(.int .i64 a.2.2.2.2.2.2.2.2.2.2.2.2)]
def g27_B (a:g27_T):List Blk:=[(ob 1 a.1),(ob 2 a.2.1),(ob 2 a.2.2.2.2.2.2.2.2.2.2.1),(ob 2 a.2.2.2.2.2.2.2.2.2.2.2.1)]
theorem g27_run (a1:List Str) (a2:List (Int × Str)) (a3:Int) (a4:Bool) (a5:Int) (a6:Int) (a7:Int) (a8:Int) (a9:Int) (a10:Int) (a11:List (Int × Str)) (a12:List (Int × Str)) (a13:Int) :callFn (X g27_S) g27_tf (g27_E (a1,a2,a3,a4,a5,a6,a7,a8,a9,a10,a11,a12,a13)) (g27_B (a1,a2,a3,a4,a5,a6,a7,a8,a9,a10,a11,a12,a13)) = (laws_markPager_o71 a1 a2 a3 a4 a5 a6 a7 a8 a9 a10 a11 a12 a13).map g27_O:=by
  rw [callFn_eq]
  simp (maxSteps:=2000000) (maxDischargeDepth:=8) -implicitDefEqProofs [g27_tf,laws_markPager_o71,g27_E,g27_B] <;> (try simp only [map_to_bind,some_elim,g27_O])
def g27_r:MRule:=RmO g27_E g27_B (fun a=>(laws_markPager_o71 a.1 a.2.1 a.2.2.1 a.2.2.2.1 a.2.2.2.2.1 a.2.2.2.2.2.1 a.2.2.2.2.2.2.1 a.2.2.2.2.2.2.2.1 a.2.2.2.2.2.2.2.2.1 a.2.2.2.2.2.2.2.2.2.1 a.2.2.2.2.2.2.2.2.2.2.1 a.2.2.2.2.2.2.2.2.2.2.2.1 a.2.2.2.2.2.2.2.2.2.2.2.2).bind fun r=>if r.1.length = a.1.length ∧ r.2.1.length = a.2.1.length ∧ r.2.2.1.length = a.2.2.2.2.2.2.2.2.2.2.1.length ∧ r.2.2.2.1.length = a.2.2.2.2.2.2.2.2.2.2.2.1.length then some ((fixLen a.1 r.1),(fixLen a.2.1 r.2.1),(fixLen a.2.2.2.2.2.2.2.2.2.2.1 r.2.2.1),(fixLen a.2.2.2.2.2.2.2.2.2.2.2.1 r.2.2.2.1),r.2.2.2.2) else none) g27_O
theorem g27_ok0:MRuleOk Tryz.prog 13 4 (RmO g27_E g27_B (fun a=>laws_markPager_o71 a.1 a.2.1 a.2.2.1 a.2.2.2.1 a.2.2.2.2.1 a.2.2.2.2.2.1 a.2.2.2.2.2.2.1 a.2.2.2.2.2.2.2.1 a.2.2.2.2.2.2.2.2.1 a.2.2.2.2.2.2.2.2.2.1 a.2.2.2.2.2.2.2.2.2.2.1 a.2.2.2.2.2.2.2.2.2.2.2.1 a.2.2.2.2.2.2.2.2.2.2.2.2) g27_O):=ok_rmo (S:=g27_S) (tf:=g27_tf) (SysOk.on trivial ⟨g35_ok,g26_ok,trivial⟩) (trE_ok (ks:=[]) Tryz.func13 (by kernel_rfl)) (by rfl) (fun _=>by simp [g27_B]) (fun _=>by simp) fun a=>g27_run a.1 a.2.1 a.2.2.1 a.2.2.2.1 a.2.2.2.2.1 a.2.2.2.2.2.1 a.2.2.2.2.2.2.1 a.2.2.2.2.2.2.2.1 a.2.2.2.2.2.2.2.2.1 a.2.2.2.2.2.2.2.2.2.1 a.2.2.2.2.2.2.2.2.2.2.1 a.2.2.2.2.2.2.2.2.2.2.2.1 a.2.2.2.2.2.2.2.2.2.2.2.2
theorem g27_ok:MRuleOk Tryz.prog 13 4 g27_r:=g27_ok0.weak fun a r hr=>by
  simp only [Option.bind_eq_some_iff] at hr
  obtain ⟨x,h1,h2⟩:=hr
  split at h2
  · rename_i hc
    simp only [Option.some.injEq] at h2
    rw [h1,← h2]
    simp [fixLen,hc]
  · cases h2
@[simp] theorem g27_app (y0:List Str)(y1:List (Int × Str))(y2 y3 y4 y5 y6 y7 y8 y9)(y10:List (Int × Str))(y11:List (Int × Str))(y12){n1:Nat}(h1:n1 = y0.length){n2:Nat}(h2:n2 = y1.length){n3:Nat}(h3:n3 = y10.length){n4:Nat}(h4:n4 = y11.length):g27_r [(.agg [(ow 0 n1),(ow 1 n2),(.int .i64 y2),(.bool y3),(.int .i64 y4),(.int .i64 y5),(.int .i64 y6),(.int .i64 y7),(.int .i64 y8),(.int .i64 y9),(ow 2 n3),(ow 3 n4)]),(.int .i64 y12)] [(ob 1 y0),(ob 2 y1),(ob 2 y10),(ob 2 y11)] = ((laws_markPager_o71 y0 y1 y2 y3 y4 y5 y6 y7 y8 y9 y10 y11 y12).bind fun r=>if r.1.length = y0.length ∧ r.2.1.length = y1.length ∧ r.2.2.1.length = y10.length ∧ r.2.2.2.1.length = y11.length then some ((fixLen y0 r.1),(fixLen y1 r.2.1),(fixLen y10 r.2.2.1),(fixLen y11 r.2.2.2.1),r.2.2.2.2) else none).map g27_O:=by
  subst h1 h2 h3 h4
  exact RmO_app (enc:=g27_E) (encB:=g27_B) (by intro a b h h2; simp [g27_E,g27_B,Prod.ext_iff] at h h2 ⊢; simp [h,h2]) (y0,y1,y2,y3,y4,y5,y6,y7,y8,y9,y10,y11,y12)
/-! laws.heldStringS -/
def g39l1_cb:TC:=(.seq (sq [mo 6 5,mo 7 0,le 8 7,bn 9 .lss (.t 6) (.t 8)] [0,1,5,9] (.cond (.t 9) .skip (.keep (kp [(1,0)] [] 0) (.exit 0)))) (.trim [0,1,5] (.seq (.block 1 (.seq (.seq (.draw [([],mo 12 0),([],mo 13 5),([0,1],ia 14 1 12 13),([0,1,2],ld 15 14),([],mo 16 1),([4],ca 17 83 [.t 16])] [oo 18 (.bin .str .neq (.t 15) (.t 17))]) (.trim [0,1,5,18] (.cond (.t 18) (.seq (.ops [mk 4 (ki (-1))]) (.keep (kp [(4,0)] [] 0) .ret)) .skip))) (.trim [0,1,5] (.ops [mo 19 1,bn 20 .add (.t 19) (ki 1),mo 1 20])))) (.trim [0,1,5] (.after (.ops [mo 10 5,bn 11 .add (.t 10) (ki 1),mo 5 11]) (kp [(0,0),(1,0),(5,0)] [] 0))))))
def g39l1_c:TC:=.loop [0,1,5] g39l1_cb
def g39_tf:TFn:=⟨(sq [mk 4 (ki 0)] [0,1] (.seq (sq [mk 5 (ki 0)] [0,1,5] (.block 0 (.keep (kp [(0,0),(1,0),(5,0)] [] 0) g39l1_c))) (.trim [1] (.seq (.ops [mo 21 1,mo 4 21]) (.keep (kp [(4,0)] [] 0) .ret))))),[.t 4]⟩
abbrev g39_S:=Sys.on [(83,g76_r)] []
@[reducible,simp] def g39l1_F:((Int) ⊕ (Int)) → Out:=(Sum.elim (fun t=>(.ext 0,[(1,(.int .i64 t))],[])) (fun t=>(.ret,[(4,(.int .i64 t))],[])))
def laws_heldStringS_l1_b (v1:List Str) (v2:Int) (v3:Int):Option ((Int × Int) ⊕ ((Int) ⊕ (Int))):=if v3 < (v1.length:Int) then if 0 ≤ v3 then (v1[(v3).toNat]?).bind fun x4=>(laws_markText v2).bind fun r5=>if ¬(x4 = r5) then some (.inr (.inr ((-1)))) else some (.inl ((IntKind.i64.wrap (v2 + 1)),(IntKind.i64.wrap (v3 + 1)))) else none else some (.inr (.inl v2))
theorem g39l1_b_eq  (v1:List Str) (v2:Int) (v3:Int):X g39_S g39l1_cb (keepEnv [0,1,5] [(0,(.vs (rows v1))),(1,(.int .i64 v2)),(5,(.int .i64 v3))]) [] = (laws_heldStringS_l1_b v1 v2 v3).map (Sum.elim (fun s=>(TX.nrm,[(0,(.vs (rows v1))),(1,(.int .i64 s.1)),(5,(.int .i64 s.2))],[])) g39l1_F):=by
  simp (maxSteps:=2000000) (maxDischargeDepth:=8) -implicitDefEqProofs [g39l1_cb,laws_heldStringS_l1_b] <;> (try simp only [map_to_bind,some_elim,g39l1_F])
def laws_heldStringS_l1 (v1:List Str) (s:Int × Int):Option ((Int) ⊕ (Int)):=loopO (fun s=>laws_heldStringS_l1_b v1 s.1 s.2) s
@[simp] theorem g39l1_eq (y0 y1 y2):X g39_S g39l1_c [(0,(.vs (rows y0))),(1,(.int .i64 y1)),(5,(.int .i64 y2))] [] = (laws_heldStringS_l1 y0 (y1,y2)).map g39l1_F:=by
  exact loop_X _ _ _ _ (by intro r; first | (simp; done) | (rcases r with r | r <;> simp; done) | (rcases r with r | r | r <;> simp; done) | (rcases r with r | r | r | r <;> simp)) (fun s=>g39l1_b_eq  y0 s.1 s.2) (y1,y2)
def laws_heldStringS (a_a:List Str) (a_k:Int):Option (Int):=(laws_heldStringS_l1 a_a ((a_k,0))).bind fun r6=>Sum.elim (fun u7=>some u7) (fun u8=>some u8) r6
@[simp] def g39_O:Int → TV × List Blk:=fun r=>((.int .i64 r),[])
def g39_E (a:List Str × Int):List TV:=[(.vs (rows a.1)),(.int .i64 a.2)]
theorem g39_run (a_a:List Str) (a_k:Int) :callFn (X g39_S) g39_tf (g39_E (a_a,a_k)) [] = (laws_heldStringS a_a a_k).map g39_O:=by
  rw [callFn_eq]
  simp (maxSteps:=2000000) (maxDischargeDepth:=8) -implicitDefEqProofs [g39_tf,laws_heldStringS,g39_E] <;> (try simp only [map_to_bind,some_elim,g39_O])
def g39_r:Rule:=RlO g39_E (fun a=>laws_heldStringS a.1 a.2) g39_O
theorem g39_ok:RuleOk Tryz.prog 84 g39_r:=ok_rlo (S:=g39_S) (tf:=g39_tf) (SysOk.on ⟨g76_ok,trivial⟩ trivial) (trE_ok (ks:=[[0,1,5],[6]]) Tryz.func84 (by kernel_rfl)) fun a=>g39_run a.1 a.2
@[simp] theorem g39_app (y0 y1):g39_r [(.vs (rows y0)),(.int .i64 y1)] = (laws_heldStringS y0 y1).map g39_O :=
  RlO_app (enc:=g39_E) (by intro a b h; simp [g39_E,Prod.ext_iff] at h ⊢; simp [h]) (y0,y1)
/-! laws.heldPutS -/
def g77l1_cb:TC:=(.seq (sq [mo 6 5,mo 7 0,le 8 7,bn 9 .lss (.t 6) (.t 8)] [0,1,5,9] (.cond (.t 9) .skip (.keep (kp [(1,0)] [] 0) (.exit 0)))) (.trim [0,1,5] (.seq (.block 1 (.seq (sq [mo 12 0,mo 13 5,ia 14 2 12 13,fa 15 0 14,ld 16 15,mo 17 1,bn 18 .neq (.t 16) (.t 17)] [0,1,5,18] (.cond (.t 18) (.seq (.ops [mk 4 (ki (-1))]) (.keep (kp [(4,0)] [] 0) .ret)) .skip)) (.trim [0,1,5] (sq [mo 19 1,bn 20 .add (.t 19) (ki 1),mo 1 20] [0,1,5] (.seq (.seq (.draw [([],mo 21 0),([],mo 22 5),([0,1],ia 23 2 21 22),([0,1,2],fa 24 1 23),([0,1,2,3],ld 25 24),([],mo 26 1),([5],ca 27 83 [.t 26])] [oo 28 (.bin .str .neq (.t 25) (.t 27))]) (.trim [0,1,5,28] (.cond (.t 28) (.seq (.ops [mk 4 (ki (-1))]) (.keep (kp [(4,0)] [] 0) .ret)) .skip))) (.trim [0,1,5] (.ops [mo 29 1,bn 30 .add (.t 29) (ki 1),mo 1 30]))))))) (.trim [0,1,5] (.after (.ops [mo 10 5,bn 11 .add (.t 10) (ki 1),mo 5 11]) (kp [(0,0),(1,0),(5,0)] [] 0))))))
def g77l1_c:TC:=.loop [0,1,5] g77l1_cb
def g77_tf:TFn:=⟨(sq [mk 4 (ki 0)] [0,1] (.seq (sq [mk 5 (ki 0)] [0,1,5] (.block 0 (.keep (kp [(0,0),(1,0),(5,0)] [] 0) g77l1_c))) (.trim [1] (.seq (.ops [mo 31 1,mo 4 31]) (.keep (kp [(4,0)] [] 0) .ret))))),[.t 4]⟩
abbrev g77_S:=Sys.on [(83,g76_r)] []
@[reducible,simp] def g77l1_F:((Int) ⊕ (Int)) → Out:=(Sum.elim (fun t=>(.ext 0,[(1,(.int .i64 t))],[])) (fun t=>(.ret,[(4,(.int .i64 t))],[])))
def laws_heldPutS_l1_b (v1:List (Int × Str)) (v2:Int) (v3:Int):Option ((Int × Int) ⊕ ((Int) ⊕ (Int))):=if v3 < (v1.length:Int) then if 0 ≤ v3 then (v1[(v3).toNat]?).bind fun x4=>if ¬(x4.1 = v2) then some (.inr (.inr ((-1)))) else if 0 ≤ v3 then (v1[(v3).toNat]?).bind fun x5=>(laws_markText ((IntKind.i64.wrap (v2 + 1)))).bind fun r6=>if ¬(x5.2 = r6) then some (.inr (.inr ((-1)))) else some (.inl ((IntKind.i64.wrap ((IntKind.i64.wrap (v2 + 1)) + 1)),(IntKind.i64.wrap (v3 + 1)))) else none else none else some (.inr (.inl v2))
theorem g77l1_b_eq  (v1:List (Int × Str)) (v2:Int) (v3:Int):X g77_S g77l1_cb (keepEnv [0,1,5] [(0,(.vs (rows v1))),(1,(.int .i64 v2)),(5,(.int .i64 v3))]) [] = (laws_heldPutS_l1_b v1 v2 v3).map (Sum.elim (fun s=>(TX.nrm,[(0,(.vs (rows v1))),(1,(.int .i64 s.1)),(5,(.int .i64 s.2))],[])) g77l1_F):=by
  simp (maxSteps:=2000000) (maxDischargeDepth:=8) -implicitDefEqProofs [g77l1_cb,laws_heldPutS_l1_b] <;> (try simp only [map_to_bind,some_elim,g77l1_F])
def laws_heldPutS_l1 (v1:List (Int × Str)) (s:Int × Int):Option ((Int) ⊕ (Int)):=loopO (fun s=>laws_heldPutS_l1_b v1 s.1 s.2) s
@[simp] theorem g77l1_eq (y0 y1 y2):X g77_S g77l1_c [(0,(.vs (rows y0))),(1,(.int .i64 y1)),(5,(.int .i64 y2))] [] = (laws_heldPutS_l1 y0 (y1,y2)).map g77l1_F:=by
  exact loop_X _ _ _ _ (by intro r; first | (simp; done) | (rcases r with r | r <;> simp; done) | (rcases r with r | r | r <;> simp; done) | (rcases r with r | r | r | r <;> simp)) (fun s=>g77l1_b_eq  y0 s.1 s.2) (y1,y2)
def laws_heldPutS (a_a:List (Int × Str)) (a_k:Int):Option (Int):=(laws_heldPutS_l1 a_a ((a_k,0))).bind fun r7=>Sum.elim (fun u8=>some u8) (fun u9=>some u9) r7
@[simp] def g77_O:Int → TV × List Blk:=fun r=>((.int .i64 r),[])
def g77_E (a:(List (Int × Str)) × Int):List TV:=[(.vs (rows a.1)),(.int .i64 a.2)]
theorem g77_run (a_a:List (Int × Str)) (a_k:Int) :callFn (X g77_S) g77_tf (g77_E (a_a,a_k)) [] = (laws_heldPutS a_a a_k).map g77_O:=by
  rw [callFn_eq]
  simp (maxSteps:=2000000) (maxDischargeDepth:=8) -implicitDefEqProofs [g77_tf,laws_heldPutS,g77_E] <;> (try simp only [map_to_bind,some_elim,g77_O])
def g77_r:Rule:=RlO g77_E (fun a=>laws_heldPutS a.1 a.2) g77_O
theorem g77_ok:RuleOk Tryz.prog 85 g77_r:=ok_rlo (S:=g77_S) (tf:=g77_tf) (SysOk.on ⟨g76_ok,trivial⟩ trivial) (trE_ok (ks:=[[0,1,5],[7]]) Tryz.func85 (by kernel_rfl)) fun a=>g77_run a.1 a.2
@[simp] theorem g77_app (y0 y1):g77_r [(.vs (rows y0)),(.int .i64 y1)] = (laws_heldPutS y0 y1).map g77_O :=
  RlO_app (enc:=g77_E) (by intro a b h; simp [g77_E,Prod.ext_iff] at h ⊢; simp [h]) (y0,y1)
/-! laws.heldDisk -/
def g78_tf:TFn:=⟨(sq [bx 2 0,mk 4 (ki 0)] [1,2] (sq [fa 5 0 2,ld 6 5,mo 7 1,ca 8 84 [.t 6,.t 7],mo 1 8] [1,2] (.seq (sq [mo 9 1,bn 10 .lss (.t 9) (ki 0)] [1,2,10] (.cond (.t 10) (.seq (.ops [mk 4 (ki (-1))]) (.keep (kp [(4,0)] [] 0) .ret)) .skip)) (.trim [1,2] (sq [fa 11 1 2,ld 12 11,mo 13 1,ca 14 85 [.t 12,.t 13],mo 1 14] [1] (.seq (sq [mo 15 1,bn 16 .lss (.t 15) (ki 0)] [1,16] (.cond (.t 16) (.seq (.ops [mk 4 (ki (-1))]) (.keep (kp [(4,0)] [] 0) .ret)) .skip)) (.trim [1] (.seq (.ops [mo 17 1,mo 4 17]) (.keep (kp [(4,0)] [] 0) .ret))))))))),[.t 4]⟩
abbrev g78_S:=Sys.on [(84,g39_r),(85,g77_r)] []
def laws_heldDisk (a_a:K0) (a_k:Int):Option (Int):=(laws_heldStringS a_a.1 a_k).bind fun r1=>if r1 < 0 then some ((-1)) else (laws_heldPutS a_a.2.1 r1).bind fun r2=>if r2 < 0 then some ((-1)) else some r2
@[simp] def g78_O:Int → TV × List Blk:=fun r=>((.int .i64 r),[])
def g78_E (a:K0 × Int):List TV:=[(.agg [(.vs (rows a.1.1)),(.vs (rows a.1.2.1)),(.int .i64 a.1.2.2.1),(.bool a.1.2.2.2)]),(.int .i64 a.2)]
theorem g78_run (a_a:K0) (a_k:Int) :callFn (X g78_S) g78_tf (g78_E (a_a,a_k)) [] = (laws_heldDisk a_a a_k).map g78_O:=by
  rw [callFn_eq]
  simp (maxSteps:=2000000) (maxDischargeDepth:=8) -implicitDefEqProofs [g78_tf,laws_heldDisk,g78_E] <;> (try simp only [map_to_bind,some_elim,g78_O])
def g78_r:Rule:=RlO g78_E (fun a=>laws_heldDisk a.1 a.2) g78_O
theorem g78_ok:RuleOk Tryz.prog 41 g78_r:=ok_rlo (S:=g78_S) (tf:=g78_tf) (SysOk.on ⟨g39_ok,g77_ok,trivial⟩ trivial) (trE_ok (ks:=[]) Tryz.func41 (by kernel_rfl)) fun a=>g78_run a.1 a.2
@[simp] theorem g78_app (y0 y1 y2 y3 y4):g78_r [(.agg [(.vs (rows y0)),(.vs (rows y1)),(.int .i64 y2),(.bool y3)]),(.int .i64 y4)] = (laws_heldDisk ((y0,y1,y2,y3)) y4).map g78_O :=
  RlO_app (enc:=g78_E) (by intro a b h; simp [g78_E,Prod.ext_iff] at h ⊢; simp [h]) ((y0,y1,y2,y3),y4)
/-! laws.heldPageS -/
def g64l1_cb:TC:=(.seq (sq [mo 6 5,mo 7 0,le 8 7,bn 9 .lss (.t 6) (.t 8)] [0,1,5,9] (.cond (.t 9) .skip (.keep (kp [(1,0)] [] 0) (.exit 0)))) (.trim [0,1,5] (.seq (.block 1 (.seq (sq [mo 12 0,mo 13 5,ia 14 2 12 13,fa 15 0 14,ld 16 15,mo 17 1,bn 18 .neq (.t 16) (.t 17)] [0,1,5,18] (.cond (.t 18) (.seq (.ops [mk 4 (ki (-1))]) (.keep (kp [(4,0)] [] 0) .ret)) .skip)) (.trim [0,1,5] (sq [mo 19 1,bn 20 .add (.t 19) (ki 1),mo 1 20] [0,1,5] (.seq (.seq (.draw [([],mo 21 0),([],mo 22 5),([0,1],ia 23 2 21 22),([0,1,2],fa 24 1 23),([0,1,2,3],ld 25 24),([],mo 26 1),([5],ca 27 83 [.t 26])] [oo 28 (.bin .str .neq (.t 25) (.t 27))]) (.trim [0,1,5,28] (.cond (.t 28) (.seq (.ops [mk 4 (ki (-1))]) (.keep (kp [(4,0)] [] 0) .ret)) .skip))) (.trim [0,1,5] (.ops [mo 29 1,bn 30 .add (.t 29) (ki 1),mo 1 30]))))))) (.trim [0,1,5] (.after (.ops [mo 10 5,bn 11 .add (.t 10) (ki 1),mo 5 11]) (kp [(0,0),(1,0),(5,0)] [] 0))))))
def g64l1_c:TC:=.loop [0,1,5] g64l1_cb
def g64_tf:TFn:=⟨(sq [mk 4 (ki 0)] [0,1] (.seq (sq [mk 5 (ki 0)] [0,1,5] (.block 0 (.keep (kp [(0,0),(1,0),(5,0)] [] 0) g64l1_c))) (.trim [1] (.seq (.ops [mo 31 1,mo 4 31]) (.keep (kp [(4,0)] [] 0) .ret))))),[.t 4]⟩
abbrev g64_S:=Sys.on [(83,g76_r)] []
@[reducible,simp] def g64l1_F:((Int) ⊕ (Int)) → Out:=(Sum.elim (fun t=>(.ext 0,[(1,(.int .i64 t))],[])) (fun t=>(.ret,[(4,(.int .i64 t))],[])))
def laws_heldPageS_l1_b (v1:List (Int × Str)) (v2:Int) (v3:Int):Option ((Int × Int) ⊕ ((Int) ⊕ (Int))):=if v3 < (v1.length:Int) then if 0 ≤ v3 then (v1[(v3).toNat]?).bind fun x4=>if ¬(x4.1 = v2) then some (.inr (.inr ((-1)))) else if 0 ≤ v3 then (v1[(v3).toNat]?).bind fun x5=>(laws_markText ((IntKind.i64.wrap (v2 + 1)))).bind fun r6=>if ¬(x5.2 = r6) then some (.inr (.inr ((-1)))) else some (.inl ((IntKind.i64.wrap ((IntKind.i64.wrap (v2 + 1)) + 1)),(IntKind.i64.wrap (v3 + 1)))) else none else none else some (.inr (.inl v2))
theorem g64l1_b_eq  (v1:List (Int × Str)) (v2:Int) (v3:Int):X g64_S g64l1_cb (keepEnv [0,1,5] [(0,(.vs (rows v1))),(1,(.int .i64 v2)),(5,(.int .i64 v3))]) [] = (laws_heldPageS_l1_b v1 v2 v3).map (Sum.elim (fun s=>(TX.nrm,[(0,(.vs (rows v1))),(1,(.int .i64 s.1)),(5,(.int .i64 s.2))],[])) g64l1_F):=by
  simp (maxSteps:=2000000) (maxDischargeDepth:=8) -implicitDefEqProofs [g64l1_cb,laws_heldPageS_l1_b] <;> (try simp only [map_to_bind,some_elim,g64l1_F])
def laws_heldPageS_l1 (v1:List (Int × Str)) (s:Int × Int):Option ((Int) ⊕ (Int)):=loopO (fun s=>laws_heldPageS_l1_b v1 s.1 s.2) s
@[simp] theorem g64l1_eq (y0 y1 y2):X g64_S g64l1_c [(0,(.vs (rows y0))),(1,(.int .i64 y1)),(5,(.int .i64 y2))] [] = (laws_heldPageS_l1 y0 (y1,y2)).map g64l1_F:=by
  exact loop_X _ _ _ _ (by intro r; first | (simp; done) | (rcases r with r | r <;> simp; done) | (rcases r with r | r | r <;> simp; done) | (rcases r with r | r | r | r <;> simp)) (fun s=>g64l1_b_eq  y0 s.1 s.2) (y1,y2)
def laws_heldPageS (a_a:List (Int × Str)) (a_k:Int):Option (Int):=(laws_heldPageS_l1 a_a ((a_k,0))).bind fun r7=>Sum.elim (fun u8=>some u8) (fun u9=>some u9) r7
@[simp] def g64_O:Int → TV × List Blk:=fun r=>((.int .i64 r),[])
def g64_E (a:(List (Int × Str)) × Int):List TV:=[(.vs (rows a.1)),(.int .i64 a.2)]
theorem g64_run (a_a:List (Int × Str)) (a_k:Int) :callFn (X g64_S) g64_tf (g64_E (a_a,a_k)) [] = (laws_heldPageS a_a a_k).map g64_O:=by
  rw [callFn_eq]
  simp (maxSteps:=2000000) (maxDischargeDepth:=8) -implicitDefEqProofs [g64_tf,laws_heldPageS,g64_E] <;> (try simp only [map_to_bind,some_elim,g64_O])
def g64_r:Rule:=RlO g64_E (fun a=>laws_heldPageS a.1 a.2) g64_O
theorem g64_ok:RuleOk Tryz.prog 42 g64_r:=ok_rlo (S:=g64_S) (tf:=g64_tf) (SysOk.on ⟨g76_ok,trivial⟩ trivial) (trE_ok (ks:=[[0,1,5],[7]]) Tryz.func42 (by kernel_rfl)) fun a=>g64_run a.1 a.2
@[simp] theorem g64_app (y0 y1):g64_r [(.vs (rows y0)),(.int .i64 y1)] = (laws_heldPageS y0 y1).map g64_O :=
  RlO_app (enc:=g64_E) (by intro a b h; simp [g64_E,Prod.ext_iff] at h ⊢; simp [h]) (y0,y1)
/-! laws.heldPager -/
def g65_tf:TFn:=⟨(sq [bx 2 0,mk 4 (ki 0)] [1,2] (sq [fa 5 0 2,ln 6 4 5,mo 7 1,ca 8 41 [.t 6,.t 7],mo 1 8] [1,2] (.seq (sq [mo 9 1,bn 10 .lss (.t 9) (ki 0)] [1,2,10] (.cond (.t 10) (.seq (.ops [mk 4 (ki (-1))]) (.keep (kp [(4,0)] [] 0) .ret)) .skip)) (.trim [1,2] (sq [fa 11 10 2,ld 12 11,mo 13 1,ca 14 42 [.t 12,.t 13],mo 1 14] [1,2] (.seq (sq [mo 15 1,bn 16 .lss (.t 15) (ki 0)] [1,2,16] (.cond (.t 16) (.seq (.ops [mk 4 (ki (-1))]) (.keep (kp [(4,0)] [] 0) .ret)) .skip)) (.trim [1,2] (sq [fa 17 11 2,ld 18 17,mo 19 1,ca 20 42 [.t 18,.t 19],mo 1 20] [1] (.seq (sq [mo 21 1,bn 22 .lss (.t 21) (ki 0)] [1,22] (.cond (.t 22) (.seq (.ops [mk 4 (ki (-1))]) (.keep (kp [(4,0)] [] 0) .ret)) .skip)) (.trim [1] (.seq (.ops [mo 23 1,mo 4 23]) (.keep (kp [(4,0)] [] 0) .ret)))))))))))),[.t 4]⟩
abbrev g65_S:=Sys.on [(41,g78_r),(42,g64_r)] []
def laws_heldPager (a_a:K1) (a_k:Int):Option (Int):=(laws_heldDisk a_a.1 a_k).bind fun r1=>if r1 < 0 then some ((-1)) else (laws_heldPageS a_a.2.2.2.2.1 r1).bind fun r2=>if r2 < 0 then some ((-1)) else (laws_heldPageS a_a.2.2.2.2.2 r2).bind fun r3=>if r3 < 0 then some ((-1)) else some r3
@[simp] def g65_O:Int → TV × List Blk:=fun r=>((.int .i64 r),[])
def g65_E (a:K1 × Int):List TV:=[(.agg [(.vs (rows a.1.1.1)),(.vs (rows a.1.1.2.1)),(.int .i64 a.1.1.2.2.1),(.bool a.1.1.2.2.2),(.int .i64 a.1.2.1.1),(.int .i64 a.1.2.1.2.1),(.int .i64 a.1.2.1.2.2.1),(.int .i64 a.1.2.1.2.2.2),(.int .i64 a.1.2.2.1),(.int .i64 a.1.2.2.2.1),(.vs (rows a.1.2.2.2.2.1)),(.vs (rows a.1.2.2.2.2.2))]),(.int .i64 a.2)]
theorem g65_run (a_a:K1) (a_k:Int) :callFn (X g65_S) g65_tf (g65_E (a_a,a_k)) [] = (laws_heldPager a_a a_k).map g65_O:=by
  rw [callFn_eq]
  simp (maxSteps:=2000000) (maxDischargeDepth:=8) -implicitDefEqProofs [g65_tf,laws_heldPager,g65_E] <;> (try simp only [map_to_bind,some_elim,g65_O])
def g65_r:Rule:=RlO g65_E (fun a=>laws_heldPager a.1 a.2) g65_O
theorem g65_ok:RuleOk Tryz.prog 15 g65_r:=ok_rlo (S:=g65_S) (tf:=g65_tf) (SysOk.on ⟨g78_ok,g64_ok,trivial⟩ trivial) (trE_ok (ks:=[]) Tryz.func15 (by kernel_rfl)) fun a=>g65_run a.1 a.2
@[simp] theorem g65_app (y0 y1 y2 y3 y4 y5 y6 y7 y8 y9 y10 y11 y12):g65_r [(.agg [(.vs (rows y0)),(.vs (rows y1)),(.int .i64 y2),(.bool y3),(.int .i64 y4),(.int .i64 y5),(.int .i64 y6),(.int .i64 y7),(.int .i64 y8),(.int .i64 y9),(.vs (rows y10)),(.vs (rows y11))]),(.int .i64 y12)] = (laws_heldPager (((y0,y1,y2,y3),(y4,y5,y6,y7),y8,y9,y10,y11)) y12).map g65_O :=
  RlO_app (enc:=g65_E) (by intro a b h; simp [g65_E,Prod.ext_iff] at h ⊢; simp [h]) (((y0,y1,y2,y3),(y4,y5,y6,y7),y8,y9,y10,y11),y12)
/-! laws.FnExactNewIndex -/
def g22_tf:TFn:=⟨(sq [bx 1 0,mk 2 (kb false)] [1] (sq [mk 3 (ki 1048576)] [1,3] (sq [ln 17 12 1,mo 18 3,ca 19 5 [.t 17,.t 18],mo 3 19] [1,3] (.seq (sq [mo 20 3,bn 21 .lss (.t 20) (ki 0)] [1,21] (.cond (.t 21) (.seq (.ops [mk 2 (kb true)]) (.keep (kp [(2,0)] [] 0) .ret)) .skip)) (.trim [1] (sq [ln 23 12 1,ca 24 8 [.t 23],ca 25 16 [.t 24],mo 22 25,oo 26 (.ext (.t 22) 0),oo 27 (.ext (.t 22) 1),oo 28 (.ext (.t 22) 2),oo 4 (.alloc [.nils,.nils,(.int .i64 0),(.bool false),(.int .i64 0),(.int .i64 0),(.int .i64 0),(.int .i64 0),(.int .i64 0),(.int .i64 0),.nils,.nils]),⟨none,none,(.store 12 (.t 4) (.t 26))⟩,mo 5 27,mo 6 28] [1,4,5,6] (sq [ln 29 12 1,ca 30 8 [.t 29],oo 7 (.alloc [.nils,.nils,(.int .i64 0),(.bool false),(.int .i64 0),(.int .i64 0),(.int .i64 0),(.int .i64 0),(.int .i64 0),(.int .i64 0),.nils,.nils]),⟨none,none,(.store 12 (.t 7) (.t 30))⟩] [1,4,5,6,7] (sq [ln 32 12 7,ca 33 17 [.t 32],mo 31 33,oo 34 (.ext (.t 31) 0),oo 35 (.ext (.t 31) 1),oo 36 (.ext (.t 31) 2),oo 8 (.alloc [.nils,.nils,(.int .i64 0),(.bool false),(.int .i64 0),(.int .i64 0),(.int .i64 0),(.int .i64 0),(.int .i64 0),(.int .i64 0),.nils,.nils]),⟨none,none,(.store 12 (.t 8) (.t 34))⟩,mo 9 35,mo 10 36] [1,4,5,6,7,8,9,10] (.seq (sq [ln 37 12 8,ln 38 12 4,ca 39 11 [.t 37,.t 38],nt 40 39,mo 41 40,⟨(some 42),(some (41,false)),(.mv (.t 9))⟩,⟨(some 43),(some (41,false)),(.mv (.t 5))⟩,⟨(some 44),(some (41,false)),(.bin .num .neq (.t 42) (.t 43))⟩,pk 45 (.t 41) (kb true) (.t 44),mo 46 45,⟨(some 47),(some (46,false)),(.mv (.t 10))⟩,⟨(some 48),(some (46,false)),(.mv (.t 6))⟩,⟨(some 49),(some (46,false)),(.bin .num .neq (.t 47) (.t 48))⟩,pk 50 (.t 46) (kb true) (.t 49)] [1,4,5,6,7,8,9,10,50] (.cond (.t 50) (.seq (.ops [mk 2 (kb false)]) (.keep (kp [(2,0)] [] 0) .ret)) .skip)) (.trim [1,4,5,6,7,8,9,10] (.seq (.seq (.draw [([],ln 51 12 7),([],ln 52 12 1),([1],ca 53 8 [.t 52])] [ca 54 11 [.t 51,.t 53],nt 55 54]) (.trim [1,4,5,6,7,8,9,10,55] (.cond (.t 55) (.seq (.ops [mk 2 (kb false)]) (.keep (kp [(2,0)] [] 0) .ret)) .skip))) (.trim [1,4,5,6,7,8,9,10] (sq [mk 11 (ki 1)] [1,4,5,6,7,8,9,10,11] (sq [ln 56 12 7,mo 57 11,oo 58 (.callM 13 0 [13,14,15,16] [.t 56,.t 57]),mo 11 58] [1,4,5,6,8,9,10,11] (.seq (sq [mo 59 11,bn 60 .lss (.t 59) (ki 0),mo 61 60,⟨(some 62),(some (61,false)),(.load (some 12) (.t 8))⟩,⟨(some 63),(some (61,false)),(.load (some 12) (.t 4))⟩,⟨(some 64),(some (61,false)),(.call 11 [.t 62,.t 63])⟩,⟨(some 65),(some (61,false)),(.un .not (.t 64))⟩,pk 66 (.t 61) (kb true) (.t 65),mo 67 66,⟨(some 68),(some (67,false)),(.mv (.t 9))⟩,⟨(some 69),(some (67,false)),(.mv (.t 5))⟩,⟨(some 70),(some (67,false)),(.bin .num .neq (.t 68) (.t 69))⟩,pk 71 (.t 67) (kb true) (.t 70),mo 72 71,⟨(some 73),(some (72,false)),(.mv (.t 10))⟩,⟨(some 74),(some (72,false)),(.mv (.t 6))⟩,⟨(some 75),(some (72,false)),(.bin .num .neq (.t 73) (.t 74))⟩,pk 76 (.t 72) (kb true) (.t 75)] [1,4,5,6,8,76] (.cond (.t 76) (.seq (.ops [mk 2 (kb false)]) (.keep (kp [(2,0)] [] 0) .ret)) .skip)) (.trim [1,4,5,6,8] (sq [mk 12 (ki 1)] [1,4,5,6,8,12] (sq [ln 77 12 8,mo 78 12,oo 79 (.callM 13 0 [19,20,21,22] [.t 77,.t 78]),mo 12 79] [1,4,5,6,8,12] (sq [mk 13 (ki 1)] [1,4,5,6,8,12,13] (sq [ln 80 12 8,mo 81 13,ca 82 15 [.t 80,.t 81],mo 13 82] [1,4,5,6,8,12,13] (.seq (sq [mo 83 13,bn 84 .lss (.t 83) (ki 0)] [1,4,5,6,8,12,13,84] (.cond (.t 84) (.seq (.ops [mk 2 (kb false)]) (.keep (kp [(2,0)] [] 0) .ret)) .skip)) (.trim [1,4,5,6,8,12,13] (.seq (sq [mo 85 13,mo 86 12,bn 87 .neq (.t 85) (.t 86)] [1,4,5,6,8,12,87] (.cond (.t 87) (.seq (.ops [mk 2 (kb false)]) (.keep (kp [(2,0)] [] 0) .ret)) .skip)) (.trim [1,4,5,6,8,12] (sq [ln 89 12 1,ca 90 8 [.t 89],ca 91 17 [.t 90],mo 88 91,oo 92 (.ext (.t 88) 0),oo 93 (.ext (.t 88) 1),oo 94 (.ext (.t 88) 2),oo 14 (.alloc [.nils,.nils,(.int .i64 0),(.bool false),(.int .i64 0),(.int .i64 0),(.int .i64 0),(.int .i64 0),(.int .i64 0),(.int .i64 0),.nils,.nils]),⟨none,none,(.store 12 (.t 14) (.t 92))⟩,mo 15 93,mo 16 94] [4,5,6,8,12,14,15,16] (.seq (sq [ln 95 12 14,ln 96 12 4,ca 97 11 [.t 95,.t 96],nt 98 97,mo 99 98,⟨(some 100),(some (99,false)),(.mv (.t 15))⟩,⟨(some 101),(some (99,false)),(.mv (.t 5))⟩,⟨(some 102),(some (99,false)),(.bin .num .neq (.t 100) (.t 101))⟩,pk 103 (.t 99) (kb true) (.t 102),mo 104 103,⟨(some 105),(some (104,false)),(.mv (.t 16))⟩,⟨(some 106),(some (104,false)),(.mv (.t 6))⟩,⟨(some 107),(some (104,false)),(.bin .num .neq (.t 105) (.t 106))⟩,pk 108 (.t 104) (kb true) (.t 107)] [8,12,108] (.cond (.t 108) (.seq (.ops [mk 2 (kb false)]) (.keep (kp [(2,0)] [] 0) .ret)) .skip)) (.trim [8,12] (sq [mk 13 (ki 1)] [8,12,13] (sq [ln 109 12 8,mo 110 13,ca 111 15 [.t 109,.t 110],mo 13 111] [12,13] (.seq (sq [mo 112 13,bn 113 .lss (.t 112) (ki 0)] [12,13,113] (.cond (.t 113) (.seq (.ops [mk 2 (kb false)]) (.keep (kp [(2,0)] [] 0) .ret)) .skip)) (.trim [12,13] (.seq (sq [mo 114 13,mo 115 12,bn 116 .neq (.t 114) (.t 115)] [116] (.cond (.t 116) (.seq (.ops [mk 2 (kb false)]) (.keep (kp [(2,0)] [] 0) .ret)) .skip)) (.trim [] (.seq (.ops [mk 2 (kb true)]) (.keep (kp [(2,0)] [] 0) .ret))))))))))))))))))))))))))))))))))),[.t 2]⟩
abbrev g22_S:=Sys.on [(5,g80_r),(8,g83_r),(16,g72_r),(17,g75_r),(11,g96_r),(15,g65_r)] [((13,0),(4,g27_r))]
def laws_FnExactNewIndex (a_aP:K1):Option (Bool):=(laws_szPager a_aP 1048576).bind fun r1=>if r1 < 0 then some true else (laws_toPager a_aP).bind fun r2=>(spec_NewIndex r2).bind fun r3=>(laws_toPager a_aP).bind fun r4=>(impl_NewIndex r4).bind fun r5=>(laws_eqPager r5.1 r3.1).bind fun r6=>if ¬(r6 = true) then some false else if ¬(r5.2.1 = r3.2.1) then some false else if ¬(r5.2.2 = r3.2.2) then some false else (laws_toPager a_aP).bind fun r7=>(laws_eqPager r4 r7).bind fun r8=>if ¬(r8 = true) then some false else (laws_markPager_o71 r4.1.1 r4.1.2.1 r4.1.2.2.1 r4.1.2.2.2 r4.2.1.1 r4.2.1.2.1 r4.2.1.2.2.1 r4.2.1.2.2.2 r4.2.2.1 r4.2.2.2.1 r4.2.2.2.2.1 r4.2.2.2.2.2 1).bind fun r9=>if r9.1.length = r4.1.1.length ∧ r9.2.1.length = r4.1.2.1.length ∧ r9.2.2.1.length = r4.2.2.2.2.1.length ∧ r9.2.2.2.1.length = r4.2.2.2.2.2.length then if r9.2.2.2.2 < 0 then some false else (laws_eqPager r5.1 r3.1).bind fun r10=>if ¬(r10 = true) then some false else if ¬(r5.2.1 = r3.2.1) then some false else if ¬(r5.2.2 = r3.2.2) then some false else (laws_markPager_o71 r5.1.1.1 r5.1.1.2.1 r5.1.1.2.2.1 r5.1.1.2.2.2 r5.1.2.1.1 r5.1.2.1.2.1 r5.1.2.1.2.2.1 r5.1.2.1.2.2.2 r5.1.2.2.1 r5.1.2.2.2.1 r5.1.2.2.2.2.1 r5.1.2.2.2.2.2 1).bind fun r11=>if r11.1.length = r5.1.1.1.length ∧ r11.2.1.length = r5.1.1.2.1.length ∧ r11.2.2.1.length = r5.1.2.2.2.2.1.length ∧ r11.2.2.2.1.length = r5.1.2.2.2.2.2.length then (laws_heldPager ((((fixLen r5.1.1.1 r11.1),(fixLen r5.1.1.2.1 r11.2.1),r5.1.1.2.2.1,r5.1.1.2.2.2),(r5.1.2.1.1,r5.1.2.1.2.1,r5.1.2.1.2.2.1,r5.1.2.1.2.2.2),r5.1.2.2.1,r5.1.2.2.2.1,(fixLen r5.1.2.2.2.2.1 r11.2.2.1),(fixLen r5.1.2.2.2.2.2 r11.2.2.2.1))) 1).bind fun r12=>if r12 < 0 then some false else if ¬(r12 = r11.2.2.2.2) then some false else (laws_toPager a_aP).bind fun r13=>(impl_NewIndex r13).bind fun r14=>(laws_eqPager r14.1 r3.1).bind fun r15=>if ¬(r15 = true) then some false else if ¬(r14.2.1 = r3.2.1) then some false else if ¬(r14.2.2 = r3.2.2) then some false else (laws_heldPager ((((fixLen r5.1.1.1 r11.1),(fixLen r5.1.1.2.1 r11.2.1),r5.1.1.2.2.1,r5.1.1.2.2.2),(r5.1.2.1.1,r5.1.2.1.2.1,r5.1.2.1.2.2.1,r5.1.2.1.2.2.2),r5.1.2.2.1,r5.1.2.2.2.1,(fixLen r5.1.2.2.2.2.1 r11.2.2.1),(fixLen r5.1.2.2.2.2.2 r11.2.2.2.1))) 1).bind fun r16=>if r16 < 0 then some false else if ¬(r16 = r11.2.2.2.2) then some false else some true else none else none
@[simp] def g22_O:Bool → TV × List Blk:=fun r=>((.bool r),[])
def g22_E (a:K1):List TV:=[(.agg [(.vs (rows a.1.1)),(.vs (rows a.1.2.1)),(.int .i64 a.1.2.2.1),(.bool a.1.2.2.2),(.int .i64 a.2.1.1),(.int .i64 a.2.1.2.1),(.int .i64 a.2.1.2.2.1),(.int .i64 a.2.1.2.2.2),(.int .i64 a.2.2.1),(.int .i64 a.2.2.2.1),(.vs (rows a.2.2.2.2.1)),(.vs (rows a.2.2.2.2.2))])]
theorem g22_run (a_aP:K1) :callFn (X g22_S) g22_tf (g22_E a_aP) [] = (laws_FnExactNewIndex a_aP).map g22_O:=by
  rw [callFn_eq]
  simp (maxSteps:=2000000) (maxDischargeDepth:=8) -implicitDefEqProofs [g22_tf,laws_FnExactNewIndex,g22_E] <;> (try simp only [map_to_bind,some_elim,g22_O])
def laws_FnExactNewIndex_r:Rule:=RlO g22_E (fun a=>laws_FnExactNewIndex a) g22_O
theorem laws_FnExactNewIndex_ok:RuleOk Tryz.prog 4 laws_FnExactNewIndex_r:=ok_rlo (S:=g22_S) (tf:=g22_tf) (SysOk.on ⟨g80_ok,g83_ok,g72_ok,g75_ok,g96_ok,g65_ok,trivial⟩ ⟨g27_ok,trivial⟩) (trE_ok (ks:=[[3]]) Tryz.func4 (by kernel_rfl)) fun a=>g22_run a
@[simp] theorem laws_FnExactNewIndex_app (y0 y1 y2 y3 y4 y5 y6 y7 y8 y9 y10 y11):laws_FnExactNewIndex_r [(.agg [(.vs (rows y0)),(.vs (rows y1)),(.int .i64 y2),(.bool y3),(.int .i64 y4),(.int .i64 y5),(.int .i64 y6),(.int .i64 y7),(.int .i64 y8),(.int .i64 y9),(.vs (rows y10)),(.vs (rows y11))])] = (laws_FnExactNewIndex (((y0,y1,y2,y3),(y4,y5,y6,y7),y8,y9,y10,y11))).map g22_O :=
  RlO_app (enc:=g22_E) (by intro a b h; simp [g22_E,Prod.ext_iff] at h ⊢; simp [h]) (((y0,y1,y2,y3),(y4,y5,y6,y7),y8,y9,y10,y11))
end
end Go.Proofs.TM
