/- Functions of the program, as functions of their data: written by program. -/
import Derived.Test.YtljphigfgffeeaaGreatDoorHB2
namespace Go.Proofs.TM
open Go Go.Proofs
set_option linter.unusedVariables false
set_option linter.unusedSimpArgs false
set_option maxHeartbeats 1000000
attribute [-simp] Option.map_bind strV_some
attribute [simp] guardOn_bool sA_bslice Function.comp_def
noncomputable section
/-! (*impl.Pager).chain -/
def g44p2_c:TC:=(.block 1 (.seq (sq [mo 20 0,mo 21 1,ca 22 72 [.t 20,.t 21],nt 23 22,mo 24 23,⟨(some 25),(some (24,false)),(.mv (.t 7))⟩,⟨(some 26),(some (24,false)),(.mv (.t 1))⟩,⟨(some 27),(some (24,false)),(.call 73 [.t 25,.t 26])⟩,pk 28 (.t 24) (kb true) (.t 27)] [0,1,5,7,8,28] (.cond (.t 28) (.seq (.ops [oo 29 (.build [(.int .i64 0),(.int .i64 0),.nils] []),mk 4 (.c .nils),⟨none,none,(.store 3 (.t 5) (.t 29))⟩,mk 6 (kb false)]) (.keep (kp [(4,1),(5,0),(6,0)] [(1000,1),(0,2),(1001,1)] 0) .ret)) .skip)) (.trim [0,1,5,7,8] (sq [mo 30 7,mo 31 1,oo 32 (.bslice [(.int .i64 0)] 1 [(0,(.t 31))]),oo 33 (.append 2 1 8 (.t 30) (.t 32)),mo 7 33] [0,1,5,7,8] (sq [mk 10 (.c (.str []))] [0,1,5,7,8] (.seq (sq [mo 35 0,mo 36 1,ca 37 75 [.t 35,.t 36],ca 38 74 [.t 37],mo 34 38,oo 39 (.ext (.t 34) 0),oo 40 (.ext (.t 34) 1),oo 41 (.ext (.t 34) 2),mo 1 39,mo 10 40,mo 9 41] [0,1,5,7,8,9,10] (sq [mo 42 9,nt 43 42] [0,1,5,7,8,10,43] (.cond (.t 43) (.seq (.ops [oo 44 (.build [(.int .i64 0),(.int .i64 0),.nils] []),mk 4 (.c .nils),⟨none,none,(.store 3 (.t 5) (.t 44))⟩,mk 6 (kb false)]) (.keep (kp [(4,1),(5,0),(6,0)] [(1000,1),(0,2),(1001,1)] 0) .ret)) .skip))) (.trim [0,1,5,7,8,10] (.after (.ops [mo 45 10,oo 46 (.callM 76 0 [2,3] [.t 8,.t 45])]) (kp [(0,0),(1,0),(5,0),(7,1),(8,0)] [(0,2),(5,1),(2,0),(6,0)] 0)))))))))
def g44l1_cb:TC:=(.seq (sq [mo 13 1,bn 14 .neq (.t 13) (ki 0),mo 15 14,⟨(some 16),(some (15,false)),(.mv (.t 7))⟩,⟨(some 17),(some (15,false)),(.len false (.t 16))⟩,⟨(some 18),(some (15,false)),(.bin .num .eql (.t 17) (ki 0))⟩,pk 19 (.t 15) (kb true) (.t 18)] [0,1,5,7,8,19] (.cond (.t 19) (.keep (kp [(0,0),(1,0),(5,0),(7,1),(8,0)] [(0,2),(1,1),(2,0),(3,0)] 0) .skip) (.keep (kp [(5,0),(7,1),(8,0)] [(0,2),(1,1),(2,0),(3,0)] 0) (.exit 0)))) (.trim [0,1,5,7,8] g44p2_c))
def g44l1_c:TC:=.loop [0,1,5,7,8] g44l1_cb
def g44_tf:TFn:=⟨(sq [mk 4 (.c .nils),oo 5 (.alloc [(.int .i64 0),(.int .i64 0),.nils]),mk 6 (kb false)] [0,1,5] (sq [mk 7 (.c .nils)] [0,1,5,7] (sq [oo 8 (.allocB 111)] [0,1,5,7,8] (.seq (sq [mk 9 (kb true)] [0,1,5,7,8] (.block 0 (.keep (kp [(0,0),(1,0),(5,0),(7,1),(8,0)] [(0,2),(1000,1),(1,0),(2,0)] 0) g44l1_c))) (.trim [5,7,8] (sq [oo 48 (.callM 78 0 [2,3] [.t 8]),ca 49 77 [.t 48],mo 47 49,oo 50 (.ext (.t 47) 0),oo 51 (.ext (.t 47) 1),oo 11 (.alloc [(.int .i64 0),(.int .i64 0),.nils]),⟨none,none,(.store 3 (.t 11) (.t 50))⟩,mo 12 51] [5,7,11,12] (.seq (.drawF [(none,mo 52 7),(none,ln 53 3 11),(none,mo 54 12),(none,mo 4 52),(some [54],⟨none,none,(.store 3 (.t 5) (.t 53))⟩)] [mo 6 54]) (.keep (kp [(4,1),(5,0),(6,0)] [(1,1),(0,2),(5,1)] 0) .ret)))))))),[.t 4,.cell 5 (some 3),.t 6]⟩
abbrev g44_S:=Sys.on [(72,g23_r),(73,g10_r),(75,g65_r),(74,g53_r),(77,g38_r)] [((76,0),(1,g9_r)),((78,0),(1,g11_r))]
def impl_Pager_chain_p2 (v7:K1) (v8:Int) (v9:Int) (v10:Int) (v11:List Int) (v12:List Bt):Option ((List Int × K2 × Bool) ⊕ (K1 × Int × Int × Int × List Int × List Bt)):=(impl_Pager_allocated v7 v8).bind fun r13=>if ¬(r13 = true) then some ((.inl (([]:List Int),(0,0,([]:List (Int × Int × Str))),false))) else (slices_Contains_int64_int64_ v11 v8).bind fun r14=>if r14 = true then some ((.inl (([]:List Int),(0,0,([]:List (Int × Int × Str))),false))) else (appL 8 v11 ((lit [v8]:List Int))).bind fun l15=>(impl_Pager_get v7 v8).bind fun r16=>(impl_chainBytes r16).bind fun r17=>if ¬(r17.2.2 = true) then some ((.inl (([]:List Int),(0,0,([]:List (Int × Int × Str))),false))) else (strings_Builder_WriteString_o0d v12 r17.2.1).bind fun r18=>some ((.inr (v7,r17.1,v9,v10,l15,r18.1)))
@[simp] theorem g44p2_eq (q0:List TV)(y0 y1 y2 y3 y4 y5 y6 y7 y8 y9 y10 y11 y12 y13 y14)(y15:List Int)(y16){n1:Nat}(h1:n1 = y15.length):X g44_S g44p2_c [(0,(.vp ((.vs (rows y0))::(.vs (rows y1))::(.int .i64 y2)::(.bool y3)::(.int .i64 y4)::(.int .i64 y5)::(.int .i64 y6)::(.int .i64 y7)::(.int .i64 y8)::(.int .i64 y9)::(.vs (rows y10))::(.vs (rows y11))::q0))),(1,(.int .i64 y12)),(5,(.ptr 0 0 0)),(7,(ow 1 n1)),(8,(.ptr 2 0 0))] [(.live 3 [[(.int .i64 y13),(.int .i64 y14),.es]]),(ob 1 y15),(.live 2 [[(.bself 2 111),(owb 3 y16.length 5)]]),(ob 1 y16)] = (impl_Pager_chain_p2 (((y0,y1,y2,y3),(y4,y5,y6,y7),y8,y9,y10,y11)) y12 y13 y14 y15 y16).map (Sum.elim (fun t=>(.ret,[(4,(ow 0 t.1.length)),(5,(.ptr 1 0 0)),(6,(.bool t.2.2))],[(ob 1 t.1),(.live 3 [[(.int .i64 t.2.1.1),(.int .i64 t.2.1.2.1),(ow 2 t.2.1.2.2.length)]]),(ob 3 t.2.1.2.2)])) (fun t=>(.nrm,[(0,(.vp ((.vs (rows t.1.1.1))::(.vs (rows t.1.1.2.1))::(.int .i64 t.1.1.2.2.1)::(.bool t.1.1.2.2.2)::(.int .i64 t.1.2.1.1)::(.int .i64 t.1.2.1.2.1)::(.int .i64 t.1.2.1.2.2.1)::(.int .i64 t.1.2.1.2.2.2)::(.int .i64 t.1.2.2.1)::(.int .i64 t.1.2.2.2.1)::(.vs (rows t.1.2.2.2.2.1))::(.vs (rows t.1.2.2.2.2.2))::q0))),(1,(.int .i64 t.2.1)),(5,(.ptr 0 0 0)),(7,(ow 1 t.2.2.2.2.1.length)),(8,(.ptr 2 0 0))],[(.live 3 [[(.int .i64 t.2.2.1),(.int .i64 t.2.2.2.1),.es]]),(ob 1 t.2.2.2.2.1),(.live 2 [[(.bself 2 111),(owb 3 t.2.2.2.2.2.length 5)]]),(ob 1 t.2.2.2.2.2)]))):=by
  subst h1
  simp (maxSteps:=2000000) (maxDischargeDepth:=8) -implicitDefEqProofs [g44p2_c,impl_Pager_chain_p2,bslV_lit (α:=Int) (zs:=[(.int .i64 0)])] <;> (try simp only [map_to_bind,some_elim])
@[reducible,simp] def g44l1_F:((List Int × K2 × Bool) ⊕ (Int × Int × List Int × List Bt)) → Out:=(Sum.elim (fun t=>(.ret,[(4,(ow 0 t.1.length)),(5,(.ptr 1 0 0)),(6,(.bool t.2.2))],[(ob 1 t.1),(.live 3 [[(.int .i64 t.2.1.1),(.int .i64 t.2.1.2.1),(ow 2 t.2.1.2.2.length)]]),(ob 3 t.2.1.2.2)])) (fun t=>(.ext 0,[(5,(.ptr 0 0 0)),(7,(ow 1 t.2.2.1.length)),(8,(.ptr 2 0 0))],[(.live 3 [[(.int .i64 t.1),(.int .i64 t.2.1),.es]]),(ob 1 t.2.2.1),(.live 2 [[(.bself 2 111),(owb 3 t.2.2.2.length 5)]]),(ob 1 t.2.2.2)])))
def impl_Pager_chain_l1_b (v1:K1) (v2:Int) (v3:Int) (v4:Int) (v5:List Int) (v6:List Bt):Option ((K1 × Int × Int × Int × List Int × List Bt) ⊕ ((List Int × K2 × Bool) ⊕ (Int × Int × List Int × List Bt))):=if ¬(v2 = 0) then (impl_Pager_chain_p2 v1 v2 v3 v4 v5 v6).bind fun r19=>Sum.elim (fun u20=>some (.inr (.inl (u20.1,u20.2.1,u20.2.2)))) (fun u21=>some (.inl (u21.1,u21.2.1,u21.2.2.1,u21.2.2.2.1,u21.2.2.2.2.1,u21.2.2.2.2.2))) r19 else if ((v5.length:Nat):Int) = 0 then (impl_Pager_chain_p2 v1 v2 v3 v4 v5 v6).bind fun r22=>Sum.elim (fun u23=>some (.inr (.inl (u23.1,u23.2.1,u23.2.2)))) (fun u24=>some (.inl (u24.1,u24.2.1,u24.2.2.1,u24.2.2.2.1,u24.2.2.2.2.1,u24.2.2.2.2.2))) r22 else some (.inr (.inr (v3,v4,v5,v6)))
theorem g44l1_b_eq (q0:List TV) (v1:K1) (v2:Int) (v3:Int) (v4:Int) (v5:List Int) (v6:List Bt):X g44_S g44l1_cb (keepEnv [0,1,5,7,8] [(0,(.vp ((.vs (rows v1.1.1))::(.vs (rows v1.1.2.1))::(.int .i64 v1.1.2.2.1)::(.bool v1.1.2.2.2)::(.int .i64 v1.2.1.1)::(.int .i64 v1.2.1.2.1)::(.int .i64 v1.2.1.2.2.1)::(.int .i64 v1.2.1.2.2.2)::(.int .i64 v1.2.2.1)::(.int .i64 v1.2.2.2.1)::(.vs (rows v1.2.2.2.2.1))::(.vs (rows v1.2.2.2.2.2))::q0))),(1,(.int .i64 v2)),(5,(.ptr 0 0 0)),(7,(ow 1 v5.length)),(8,(.ptr 2 0 0))]) [(.live 3 [[(.int .i64 v3),(.int .i64 v4),.es]]),(ob 1 v5),(.live 2 [[(.bself 2 111),(owb 3 v6.length 5)]]),(ob 1 v6)] = (impl_Pager_chain_l1_b v1 v2 v3 v4 v5 v6).map (Sum.elim (fun s=>(TX.nrm,[(0,(.vp ((.vs (rows s.1.1.1))::(.vs (rows s.1.1.2.1))::(.int .i64 s.1.1.2.2.1)::(.bool s.1.1.2.2.2)::(.int .i64 s.1.2.1.1)::(.int .i64 s.1.2.1.2.1)::(.int .i64 s.1.2.1.2.2.1)::(.int .i64 s.1.2.1.2.2.2)::(.int .i64 s.1.2.2.1)::(.int .i64 s.1.2.2.2.1)::(.vs (rows s.1.2.2.2.2.1))::(.vs (rows s.1.2.2.2.2.2))::q0))),(1,(.int .i64 s.2.1)),(5,(.ptr 0 0 0)),(7,(ow 1 s.2.2.2.2.1.length)),(8,(.ptr 2 0 0))],[(.live 3 [[(.int .i64 s.2.2.1),(.int .i64 s.2.2.2.1),.es]]),(ob 1 s.2.2.2.2.1),(.live 2 [[(.bself 2 111),(owb 3 s.2.2.2.2.2.length 5)]]),(ob 1 s.2.2.2.2.2)])) g44l1_F):=by
  simp (maxSteps:=2000000) (maxDischargeDepth:=8) -implicitDefEqProofs [g44l1_cb,impl_Pager_chain_l1_b,bslV_lit (α:=Int) (zs:=[(.int .i64 0)])] <;> (try simp only [map_to_bind,some_elim,g44l1_F])
def impl_Pager_chain_l1  (s:K1 × Int × Int × Int × List Int × List Bt):Option ((List Int × K2 × Bool) ⊕ (Int × Int × List Int × List Bt)):=loopO (fun s=>impl_Pager_chain_l1_b  s.1 s.2.1 s.2.2.1 s.2.2.2.1 s.2.2.2.2.1 s.2.2.2.2.2) s
@[simp] theorem g44l1_eq (q0:List TV)(y0 y1 y2 y3 y4 y5 y6 y7 y8 y9 y10 y11 y12 y13 y14)(y15:List Int)(y16){n1:Nat}(h1:n1 = y15.length):X g44_S g44l1_c [(0,(.vp ((.vs (rows y0))::(.vs (rows y1))::(.int .i64 y2)::(.bool y3)::(.int .i64 y4)::(.int .i64 y5)::(.int .i64 y6)::(.int .i64 y7)::(.int .i64 y8)::(.int .i64 y9)::(.vs (rows y10))::(.vs (rows y11))::q0))),(1,(.int .i64 y12)),(5,(.ptr 0 0 0)),(7,(ow 1 n1)),(8,(.ptr 2 0 0))] [(.live 3 [[(.int .i64 y13),(.int .i64 y14),.es]]),(ob 1 y15),(.live 2 [[(.bself 2 111),(owb 3 y16.length 5)]]),(ob 1 y16)] = (impl_Pager_chain_l1  (((y0,y1,y2,y3),(y4,y5,y6,y7),y8,y9,y10,y11),y12,y13,y14,y15,y16)).map g44l1_F:=by
  subst h1
  exact loop_X _ _ _ _ (by intro r; first | (simp; done) | (rcases r with r | r <;> simp; done) | (rcases r with r | r | r <;> simp; done) | (rcases r with r | r | r | r <;> simp)) (fun s=>g44l1_b_eq q0  s.1 s.2.1 s.2.2.1 s.2.2.2.1 s.2.2.2.2.1 s.2.2.2.2.2) (((y0,y1,y2,y3),(y4,y5,y6,y7),y8,y9,y10,y11),y12,y13,y14,y15,y16)
@[simp] theorem g44l1_eq_4 (q0:List TV)(y0 y1 y2 y3 y4 y5 y6 y7 y8 y9 y10 y11 y12 y13 y14 y15):X g44_S g44l1_c [(0,(.vp ((.vs (rows y0))::(.vs (rows y1))::(.int .i64 y2)::(.bool y3)::(.int .i64 y4)::(.int .i64 y5)::(.int .i64 y6)::(.int .i64 y7)::(.int .i64 y8)::(.int .i64 y9)::(.vs (rows y10))::(.vs (rows y11))::q0))),(1,(.int .i64 y12)),(5,(.ptr 0 0 0)),(7,.es),(8,(.ptr 2 0 0))] [(.live 3 [[(.int .i64 y13),(.int .i64 y14),.es]]),.dead,(.live 2 [[(.bself 2 111),(owb 3 y15.length 5)]]),(ob 1 y15)] = (impl_Pager_chain_l1  (((y0,y1,y2,y3),(y4,y5,y6,y7),y8,y9,y10,y11),y12,y13,y14,([]:List Int),y15)).map g44l1_F :=
  g44l1_eq q0 y0 y1 y2 y3 y4 y5 y6 y7 y8 y9 y10 y11 y12 y13 y14 ([]:List Int) y15 rfl
def impl_Pager_chain (a_p:K1) (a_at:Int):Option (List Int × K2 × Bool):=(impl_Pager_chain_l1 ((a_p,a_at,0,0,([]:List Int),nilB))).bind fun r25=>Sum.elim (fun u26=>some (u26.1,u26.2.1,u26.2.2)) (fun u27=>(strings_Builder_String_of5 u27.2.2.2).bind fun r28=>(impl_DecodeHeader r28).bind fun r29=>some (u27.2.2.1,r29.1,r29.2)) r25
@[simp] def g44_O:(List Int × K2 × Bool) → TV × List Blk:=fun r=>((.tup [(ow 0 r.1.length),(.agg [(.int .i64 r.2.1.1),(.int .i64 r.2.1.2.1),(ow 2 r.2.1.2.2.length)]),(.bool r.2.2)]),[(ob 1 r.1),(.live 3 [[(.int .i64 r.2.1.1),(.int .i64 r.2.1.2.1),(ow 2 r.2.1.2.2.length)]]),(ob 3 r.2.1.2.2)])
def g44_E (a:K1 × Int × List TV):List TV:=[(.vp ((.vs (rows a.1.1.1))::(.vs (rows a.1.1.2.1))::(.int .i64 a.1.1.2.2.1)::(.bool a.1.1.2.2.2)::(.int .i64 a.1.2.1.1)::(.int .i64 a.1.2.1.2.1)::(.int .i64 a.1.2.1.2.2.1)::(.int .i64 a.1.2.1.2.2.2)::(.int .i64 a.1.2.2.1)::(.int .i64 a.1.2.2.2.1)::(.vs (rows a.1.2.2.2.2.1))::(.vs (rows a.1.2.2.2.2.2))::a.2.2)),(.int .i64 a.2.1)]
theorem g44_run (a_p:K1) (a_at:Int) (q0:List TV):callFn (X g44_S) g44_tf (g44_E (a_p,a_at,q0)) [] = (impl_Pager_chain a_p a_at).map g44_O:=by
  rw [callFn_eq]
  simp (maxSteps:=2000000) (maxDischargeDepth:=8) -implicitDefEqProofs [g44_tf,impl_Pager_chain,g44_E,bslV_lit (α:=Int) (zs:=[(.int .i64 0)])] <;> (try simp only [map_to_bind,some_elim,g44_O])
def g44_r:Rule:=RlO g44_E (fun a=>impl_Pager_chain a.1 a.2.1) g44_O
theorem g44_ok:RuleOk Tryz.prog 31 g44_r:=ok_rlo (S:=g44_S) (tf:=g44_tf) (SysOk.on ⟨g23_ok,g10_ok,g65_ok,g53_ok,g38_ok,trivial⟩ ⟨g9_ok,g11_ok,trivial⟩) (trE_ok (ks:=[[0,1,5,7,8],[5,2000000,0,0,0,0,0,2,54]]) Tryz.func31 (by kernel_rfl)) fun a=>g44_run a.1 a.2.1 a.2.2
@[simp] theorem g44_app (y0 y1 y2 y3 y4 y5 y6 y7 y8 y9 y10 y11 y12)(q0:List TV):g44_r [(.vp ((.vs (rows y0))::(.vs (rows y1))::(.int .i64 y2)::(.bool y3)::(.int .i64 y4)::(.int .i64 y5)::(.int .i64 y6)::(.int .i64 y7)::(.int .i64 y8)::(.int .i64 y9)::(.vs (rows y10))::(.vs (rows y11))::q0)),(.int .i64 y12)] = (impl_Pager_chain (((y0,y1,y2,y3),(y4,y5,y6,y7),y8,y9,y10,y11)) y12).map g44_O :=
  RlO_app (enc:=g44_E) (by intro a b h; simp [g44_E,Prod.ext_iff] at h ⊢; simp [h]) (((y0,y1,y2,y3),(y4,y5,y6,y7),y8,y9,y10,y11),y12,q0)
/-! impl.HeaderBlocks -/
def g39_tf:TFn:=⟨(sq [bx 2 0,mk 4 (.c .nils),mk 5 (ki 0)] [1,2] (.seq (sq [ln 9 12 2,ca 10 30 [.t 9],nt 11 10] [1,2,11] (.cond (.t 11) (.seq (.ops [mk 4 (.c .nils),mk 5 (ki 1)]) (.keep (kp [(4,1),(5,0)] [(1000,1)] 0) .ret)) .skip)) (.trim [1,2] (sq [mo 13 1,ca 14 31 [.t 2,.t 13],mo 12 14,oo 15 (.ext (.t 12) 0),oo 16 (.ext (.t 12) 1),oo 17 (.ext (.t 12) 2),oo 7 (.alloc [(.int .i64 0),(.int .i64 0),.nils]),mo 6 15,⟨none,none,(.store 3 (.t 7) (.t 16))⟩,mo 8 17] [6,8] (.seq (sq [mo 18 8,nt 19 18] [6,19] (.cond (.t 19) (.seq (.ops [mk 4 (.c .nils),mk 5 (ki 10)]) (.keep (kp [(4,1),(5,0)] [(1000,1)] 0) .ret)) .skip)) (.trim [6] (.seq (.ops [mo 20 6,mo 4 20,mk 5 (ki 0)]) (.keep (kp [(4,1),(5,0)] [(1,1)] 0) .ret)))))))),[.t 4,.t 5]⟩
abbrev g39_S:=Sys.on [(30,g50_r),(31,g44_r)] []
def impl_HeaderBlocks (a_p:K1) (a_at:Int):Option (List Int × Int):=(impl_ValidPager a_p).bind fun r1=>if ¬(r1 = true) then some (([]:List Int),1) else (impl_Pager_chain a_p a_at).bind fun r2=>if ¬(r2.2.2 = true) then some (([]:List Int),10) else some (r2.1,0)
@[simp] def g39_O:(List Int × Int) → TV × List Blk:=fun r=>((.tup [(ow 0 r.1.length),(.int .i64 r.2)]),[(ob 1 r.1)])
def g39_E (a:K1 × Int):List TV:=[(.agg [(.vs (rows a.1.1.1)),(.vs (rows a.1.1.2.1)),(.int .i64 a.1.1.2.2.1),(.bool a.1.1.2.2.2),(.int .i64 a.1.2.1.1),(.int .i64 a.1.2.1.2.1),(.int .i64 a.1.2.1.2.2.1),(.int .i64 a.1.2.1.2.2.2),(.int .i64 a.1.2.2.1),(.int .i64 a.1.2.2.2.1),(.vs (rows a.1.2.2.2.2.1)),(.vs (rows a.1.2.2.2.2.2))]),(.int .i64 a.2)]
theorem g39_run (a_p:K1) (a_at:Int) :callFn (X g39_S) g39_tf (g39_E (a_p,a_at)) [] = (impl_HeaderBlocks a_p a_at).map g39_O:=by
  rw [callFn_eq]
  simp (maxSteps:=2000000) (maxDischargeDepth:=8) -implicitDefEqProofs [g39_tf,impl_HeaderBlocks,g39_E] <;> (try simp only [map_to_bind,some_elim,g39_O])
def g39_r:Rule:=RlO g39_E (fun a=>impl_HeaderBlocks a.1 a.2) g39_O
theorem g39_ok:RuleOk Tryz.prog 9 g39_r:=ok_rlo (S:=g39_S) (tf:=g39_tf) (SysOk.on ⟨g50_ok,g44_ok,trivial⟩ trivial) (trE_ok (ks:=[]) Tryz.func9 (by kernel_rfl)) fun a=>g39_run a.1 a.2
@[simp] theorem g39_app (y0 y1 y2 y3 y4 y5 y6 y7 y8 y9 y10 y11 y12):g39_r [(.agg [(.vs (rows y0)),(.vs (rows y1)),(.int .i64 y2),(.bool y3),(.int .i64 y4),(.int .i64 y5),(.int .i64 y6),(.int .i64 y7),(.int .i64 y8),(.int .i64 y9),(.vs (rows y10)),(.vs (rows y11))]),(.int .i64 y12)] = (impl_HeaderBlocks (((y0,y1,y2,y3),(y4,y5,y6,y7),y8,y9,y10,y11)) y12).map g39_O :=
  RlO_app (enc:=g39_E) (by intro a b h; simp [g39_E,Prod.ext_iff] at h ⊢; simp [h]) (((y0,y1,y2,y3),(y4,y5,y6,y7),y8,y9,y10,y11),y12)
/-! laws.eqInt64S -/
def g73l1_cb:TC:=(.seq (sq [mo 11 5,mo 12 0,le 13 12,bn 14 .lss (.t 11) (.t 13)] [0,1,5,14] (.cond (.t 14) .skip (.keep (kp [] [] 0) (.exit 0)))) (.trim [0,1,5] (.seq (.block 1 (.seq (.draw [([],mo 17 0),([],mo 18 5),([0,1],ia 19 1 17 18),([0,1,2],ld 20 19),([],mo 21 1),([],mo 22 5),([4,5],ia 23 1 21 22),([4,5,6],ld 24 23)] [bn 25 .neq (.t 20) (.t 24)]) (.trim [0,1,5,25] (.cond (.t 25) (.seq (.ops [mk 4 (kb false)]) (.keep (kp [(4,0)] [] 0) .ret)) .skip)))) (.trim [0,1,5] (.after (.ops [mo 15 5,bn 16 .add (.t 15) (ki 1),mo 5 16]) (kp [(0,0),(1,0),(5,0)] [] 0))))))
def g73l1_c:TC:=.loop [0,1,5] g73l1_cb
def g73_tf:TFn:=⟨(sq [mk 4 (kb false)] [0,1] (.seq (sq [mo 6 0,le 7 6,mo 8 1,le 9 8,bn 10 .neq (.t 7) (.t 9)] [0,1,10] (.cond (.t 10) (.seq (.ops [mk 4 (kb false)]) (.keep (kp [(4,0)] [] 0) .ret)) .skip)) (.trim [0,1] (.seq (sq [mk 5 (ki 0)] [0,1,5] (.block 0 (.keep (kp [(0,0),(1,0),(5,0)] [] 0) g73l1_c))) (.trim [] (.seq (.ops [mk 4 (kb true)]) (.keep (kp [(4,0)] [] 0) .ret))))))),[.t 4]⟩
abbrev g73_S:=Sys.on [] []
@[reducible,simp] def g73l1_F:((Unit) ⊕ (Bool)) → Out:=(Sum.elim (fun t=>(.ext 0,[],[])) (fun t=>(.ret,[(4,(.bool t))],[])))
def laws_eqInt64S_l1_b (v1:List Int) (v2:List Int) (v3:Int):Option ((Int) ⊕ ((Unit) ⊕ (Bool))):=if v3 < (v1.length:Int) then if 0 ≤ v3 then (v1[(v3).toNat]?).bind fun x4=>if 0 ≤ v3 then (v2[(v3).toNat]?).bind fun x5=>if ¬(x4 = x5) then some (.inr (.inr false)) else some (.inl ((IntKind.i64.wrap (v3 + 1)))) else none else none else some (.inr (.inl ()))
theorem g73l1_b_eq  (v1:List Int) (v2:List Int) (v3:Int):X g73_S g73l1_cb (keepEnv [0,1,5] [(0,(.vs (rows v1))),(1,(.vs (rows v2))),(5,(.int .i64 v3))]) [] = (laws_eqInt64S_l1_b v1 v2 v3).map (Sum.elim (fun s=>(TX.nrm,[(0,(.vs (rows v1))),(1,(.vs (rows v2))),(5,(.int .i64 s))],[])) g73l1_F):=by
  simp (maxSteps:=2000000) (maxDischargeDepth:=8) -implicitDefEqProofs [g73l1_cb,laws_eqInt64S_l1_b] <;> (try simp only [map_to_bind,some_elim,g73l1_F])
def laws_eqInt64S_l1 (v1:List Int) (v2:List Int) (s:Int):Option ((Unit) ⊕ (Bool)):=loopO (fun s=>laws_eqInt64S_l1_b v1 v2 s) s
@[simp] theorem g73l1_eq (y0 y1 y2):X g73_S g73l1_c [(0,(.vs (rows y0))),(1,(.vs (rows y1))),(5,(.int .i64 y2))] [] = (laws_eqInt64S_l1 y0 y1 y2).map g73l1_F:=by
  exact loop_X _ _ _ _ (by intro r; first | (simp; done) | (rcases r with r | r <;> simp; done) | (rcases r with r | r | r <;> simp; done) | (rcases r with r | r | r | r <;> simp)) (fun s=>g73l1_b_eq  y0 y1 s) y2
def laws_eqInt64S (a_a:List Int) (a_b:List Int):Option (Bool):=if ¬((a_a.length:Int) = (a_b.length:Int)) then some false else (laws_eqInt64S_l1 a_a a_b 0).bind fun r6=>Sum.elim (fun u7=>some true) (fun u8=>some u8) r6
@[simp] def g73_O:Bool → TV × List Blk:=fun r=>((.bool r),[])
def g73_E (a:List Int × List Int):List TV:=[(.vs (rows a.1)),(.vs (rows a.2))]
theorem g73_run (a_a:List Int) (a_b:List Int) :callFn (X g73_S) g73_tf (g73_E (a_a,a_b)) [] = (laws_eqInt64S a_a a_b).map g73_O:=by
  rw [callFn_eq]
  simp (maxSteps:=2000000) (maxDischargeDepth:=8) -implicitDefEqProofs [g73_tf,laws_eqInt64S,g73_E] <;> (try simp only [map_to_bind,some_elim,g73_O])
def g73_r:Rule:=RlO g73_E (fun a=>laws_eqInt64S a.1 a.2) g73_O
theorem g73_ok:RuleOk Tryz.prog 10 g73_r:=ok_rlo (S:=g73_S) (tf:=g73_tf) (SysOk.on trivial trivial) (trE_ok (ks:=[[0,1,5],[8]]) Tryz.func10 (by kernel_rfl)) fun a=>g73_run a.1 a.2
@[simp] theorem g73_app (y0 y1):g73_r [(.vs (rows y0)),(.vs (rows y1))] = (laws_eqInt64S y0 y1).map g73_O :=
  RlO_app (enc:=g73_E) (by intro a b h; simp [g73_E,Prod.ext_iff] at h ⊢; simp [h]) (y0,y1)
/-! laws.eqStringS -/
def g67l1_cb:TC:=(.seq (sq [mo 11 5,mo 12 0,le 13 12,bn 14 .lss (.t 11) (.t 13)] [0,1,5,14] (.cond (.t 14) .skip (.keep (kp [] [] 0) (.exit 0)))) (.trim [0,1,5] (.seq (.block 1 (.seq (.draw [([],mo 17 0),([],mo 18 5),([0,1],ia 19 1 17 18),([0,1,2],ld 20 19),([],mo 21 1),([],mo 22 5),([4,5],ia 23 1 21 22),([4,5,6],ld 24 23)] [oo 25 (.bin .str .neq (.t 20) (.t 24))]) (.trim [0,1,5,25] (.cond (.t 25) (.seq (.ops [mk 4 (kb false)]) (.keep (kp [(4,0)] [] 0) .ret)) .skip)))) (.trim [0,1,5] (.after (.ops [mo 15 5,bn 16 .add (.t 15) (ki 1),mo 5 16]) (kp [(0,0),(1,0),(5,0)] [] 0))))))
def g67l1_c:TC:=.loop [0,1,5] g67l1_cb
def g67_tf:TFn:=⟨(sq [mk 4 (kb false)] [0,1] (.seq (sq [mo 6 0,le 7 6,mo 8 1,le 9 8,bn 10 .neq (.t 7) (.t 9)] [0,1,10] (.cond (.t 10) (.seq (.ops [mk 4 (kb false)]) (.keep (kp [(4,0)] [] 0) .ret)) .skip)) (.trim [0,1] (.seq (sq [mk 5 (ki 0)] [0,1,5] (.block 0 (.keep (kp [(0,0),(1,0),(5,0)] [] 0) g67l1_c))) (.trim [] (.seq (.ops [mk 4 (kb true)]) (.keep (kp [(4,0)] [] 0) .ret))))))),[.t 4]⟩
abbrev g67_S:=Sys.on [] []
@[reducible,simp] def g67l1_F:((Unit) ⊕ (Bool)) → Out:=(Sum.elim (fun t=>(.ext 0,[],[])) (fun t=>(.ret,[(4,(.bool t))],[])))
def laws_eqStringS_l1_b (v1:List Str) (v2:List Str) (v3:Int):Option ((Int) ⊕ ((Unit) ⊕ (Bool))):=if v3 < (v1.length:Int) then if 0 ≤ v3 then (v1[(v3).toNat]?).bind fun x4=>if 0 ≤ v3 then (v2[(v3).toNat]?).bind fun x5=>if ¬(x4 = x5) then some (.inr (.inr false)) else some (.inl ((IntKind.i64.wrap (v3 + 1)))) else none else none else some (.inr (.inl ()))
theorem g67l1_b_eq  (v1:List Str) (v2:List Str) (v3:Int):X g67_S g67l1_cb (keepEnv [0,1,5] [(0,(.vs (rows v1))),(1,(.vs (rows v2))),(5,(.int .i64 v3))]) [] = (laws_eqStringS_l1_b v1 v2 v3).map (Sum.elim (fun s=>(TX.nrm,[(0,(.vs (rows v1))),(1,(.vs (rows v2))),(5,(.int .i64 s))],[])) g67l1_F):=by
  simp (maxSteps:=2000000) (maxDischargeDepth:=8) -implicitDefEqProofs [g67l1_cb,laws_eqStringS_l1_b] <;> (try simp only [map_to_bind,some_elim,g67l1_F])
def laws_eqStringS_l1 (v1:List Str) (v2:List Str) (s:Int):Option ((Unit) ⊕ (Bool)):=loopO (fun s=>laws_eqStringS_l1_b v1 v2 s) s
@[simp] theorem g67l1_eq (y0 y1 y2):X g67_S g67l1_c [(0,(.vs (rows y0))),(1,(.vs (rows y1))),(5,(.int .i64 y2))] [] = (laws_eqStringS_l1 y0 y1 y2).map g67l1_F:=by
  exact loop_X _ _ _ _ (by intro r; first | (simp; done) | (rcases r with r | r <;> simp; done) | (rcases r with r | r | r <;> simp; done) | (rcases r with r | r | r | r <;> simp)) (fun s=>g67l1_b_eq  y0 y1 s) y2
def laws_eqStringS (a_a:List Str) (a_b:List Str):Option (Bool):=if ¬((a_a.length:Int) = (a_b.length:Int)) then some false else (laws_eqStringS_l1 a_a a_b 0).bind fun r6=>Sum.elim (fun u7=>some true) (fun u8=>some u8) r6
@[simp] def g67_O:Bool → TV × List Blk:=fun r=>((.bool r),[])
def g67_E (a:List Str × List Str):List TV:=[(.vs (rows a.1)),(.vs (rows a.2))]
theorem g67_run (a_a:List Str) (a_b:List Str) :callFn (X g67_S) g67_tf (g67_E (a_a,a_b)) [] = (laws_eqStringS a_a a_b).map g67_O:=by
  rw [callFn_eq]
  simp (maxSteps:=2000000) (maxDischargeDepth:=8) -implicitDefEqProofs [g67_tf,laws_eqStringS,g67_E] <;> (try simp only [map_to_bind,some_elim,g67_O])
def g67_r:Rule:=RlO g67_E (fun a=>laws_eqStringS a.1 a.2) g67_O
theorem g67_ok:RuleOk Tryz.prog 79 g67_r:=ok_rlo (S:=g67_S) (tf:=g67_tf) (SysOk.on trivial trivial) (trE_ok (ks:=[[0,1,5],[8]]) Tryz.func79 (by kernel_rfl)) fun a=>g67_run a.1 a.2
@[simp] theorem g67_app (y0 y1):g67_r [(.vs (rows y0)),(.vs (rows y1))] = (laws_eqStringS y0 y1).map g67_O :=
  RlO_app (enc:=g67_E) (by intro a b h; simp [g67_E,Prod.ext_iff] at h ⊢; simp [h]) (y0,y1)
/-! laws.eqPut -/
def g115_tf:TFn:=⟨(sq [bx 2 0,bx 3 1,mk 4 (kb false)] [2,3] (.seq (sq [fa 5 0 2,ld 6 5,fa 7 0 3,ld 8 7,bn 9 .neq (.t 6) (.t 8)] [2,3,9] (.cond (.t 9) (.seq (.ops [mk 4 (kb false)]) (.keep (kp [(4,0)] [] 0) .ret)) .skip)) (.trim [2,3] (.seq (sq [fa 10 1 2,ld 11 10,fa 12 1 3,ld 13 12,oo 14 (.bin .str .neq (.t 11) (.t 13))] [14] (.cond (.t 14) (.seq (.ops [mk 4 (kb false)]) (.keep (kp [(4,0)] [] 0) .ret)) .skip)) (.trim [] (.seq (.ops [mk 4 (kb true)]) (.keep (kp [(4,0)] [] 0) .ret))))))),[.t 4]⟩
abbrev g115_S:=Sys.on [] []
def laws_eqPut (a_a:Int × Str) (a_b:Int × Str):Option (Bool):=if ¬(a_a.1 = a_b.1) then some false else if ¬(a_a.2 = a_b.2) then some false else some true
@[simp] def g115_O:Bool → TV × List Blk:=fun r=>((.bool r),[])
def g115_E (a:(Int × Str) × (Int × Str)):List TV:=[(.agg [(.int .i64 a.1.1),(.str a.1.2)]),(.agg [(.int .i64 a.2.1),(.str a.2.2)])]
theorem g115_run (a_a:Int × Str) (a_b:Int × Str) :callFn (X g115_S) g115_tf (g115_E (a_a,a_b)) [] = (laws_eqPut a_a a_b).map g115_O:=by
  rw [callFn_eq]
  simp (maxSteps:=2000000) (maxDischargeDepth:=8) -implicitDefEqProofs [g115_tf,laws_eqPut,g115_E] <;> (try simp only [map_to_bind,some_elim,g115_O])
def g115_r:Rule:=RlO g115_E (fun a=>laws_eqPut a.1 a.2) g115_O
theorem g115_ok:RuleOk Tryz.prog 125 g115_r:=ok_rlo (S:=g115_S) (tf:=g115_tf) (SysOk.on trivial trivial) (trE_ok (ks:=[]) Tryz.func125 (by kernel_rfl)) fun a=>g115_run a.1 a.2
@[simp] theorem g115_app (y0 y1 y2 y3):g115_r [(.agg [(.int .i64 y0),(.str y1)]),(.agg [(.int .i64 y2),(.str y3)])] = (laws_eqPut ((y0,y1)) ((y2,y3))).map g115_O :=
  RlO_app (enc:=g115_E) (by intro a b h; simp [g115_E,Prod.ext_iff] at h ⊢; simp [h]) ((y0,y1),(y2,y3))
/-! laws.eqPutS -/
def g106l1_cb:TC:=(.seq (sq [mo 11 5,mo 12 0,le 13 12,bn 14 .lss (.t 11) (.t 13)] [0,1,5,14] (.cond (.t 14) .skip (.keep (kp [] [] 0) (.exit 0)))) (.trim [0,1,5] (.seq (.block 1 (.seq (.draw [([],mo 17 0),([],mo 18 5),([0,1],ia 19 2 17 18),([0,1,2],ln 20 2 19),([],mo 21 1),([],mo 22 5),([4,5],ia 23 2 21 22),([4,5,6],ln 24 2 23)] [ca 25 125 [.t 20,.t 24],nt 26 25]) (.trim [0,1,5,26] (.cond (.t 26) (.seq (.ops [mk 4 (kb false)]) (.keep (kp [(4,0)] [] 0) .ret)) .skip)))) (.trim [0,1,5] (.after (.ops [mo 15 5,bn 16 .add (.t 15) (ki 1),mo 5 16]) (kp [(0,0),(1,0),(5,0)] [] 0))))))
def g106l1_c:TC:=.loop [0,1,5] g106l1_cb
def g106_tf:TFn:=⟨(sq [mk 4 (kb false)] [0,1] (.seq (sq [mo 6 0,le 7 6,mo 8 1,le 9 8,bn 10 .neq (.t 7) (.t 9)] [0,1,10] (.cond (.t 10) (.seq (.ops [mk 4 (kb false)]) (.keep (kp [(4,0)] [] 0) .ret)) .skip)) (.trim [0,1] (.seq (sq [mk 5 (ki 0)] [0,1,5] (.block 0 (.keep (kp [(0,0),(1,0),(5,0)] [] 0) g106l1_c))) (.trim [] (.seq (.ops [mk 4 (kb true)]) (.keep (kp [(4,0)] [] 0) .ret))))))),[.t 4]⟩
abbrev g106_S:=Sys.on [(125,g115_r)] []
@[reducible,simp] def g106l1_F:((Unit) ⊕ (Bool)) → Out:=(Sum.elim (fun t=>(.ext 0,[],[])) (fun t=>(.ret,[(4,(.bool t))],[])))
def laws_eqPutS_l1_b (v1:List (Int × Str)) (v2:List (Int × Str)) (v3:Int):Option ((Int) ⊕ ((Unit) ⊕ (Bool))):=if v3 < (v1.length:Int) then if 0 ≤ v3 then (v1[(v3).toNat]?).bind fun x4=>if 0 ≤ v3 then (v2[(v3).toNat]?).bind fun x5=>(laws_eqPut x4 x5).bind fun r6=>if ¬(r6 = true) then some (.inr (.inr false)) else some (.inl ((IntKind.i64.wrap (v3 + 1)))) else none else none else some (.inr (.inl ()))
theorem g106l1_b_eq  (v1:List (Int × Str)) (v2:List (Int × Str)) (v3:Int):X g106_S g106l1_cb (keepEnv [0,1,5] [(0,(.vs (rows v1))),(1,(.vs (rows v2))),(5,(.int .i64 v3))]) [] = (laws_eqPutS_l1_b v1 v2 v3).map (Sum.elim (fun s=>(TX.nrm,[(0,(.vs (rows v1))),(1,(.vs (rows v2))),(5,(.int .i64 s))],[])) g106l1_F):=by
  simp (maxSteps:=2000000) (maxDischargeDepth:=8) -implicitDefEqProofs [g106l1_cb,laws_eqPutS_l1_b] <;> (try simp only [map_to_bind,some_elim,g106l1_F])
def laws_eqPutS_l1 (v1:List (Int × Str)) (v2:List (Int × Str)) (s:Int):Option ((Unit) ⊕ (Bool)):=loopO (fun s=>laws_eqPutS_l1_b v1 v2 s) s
@[simp] theorem g106l1_eq (y0 y1 y2):X g106_S g106l1_c [(0,(.vs (rows y0))),(1,(.vs (rows y1))),(5,(.int .i64 y2))] [] = (laws_eqPutS_l1 y0 y1 y2).map g106l1_F:=by
  exact loop_X _ _ _ _ (by intro r; first | (simp; done) | (rcases r with r | r <;> simp; done) | (rcases r with r | r | r <;> simp; done) | (rcases r with r | r | r | r <;> simp)) (fun s=>g106l1_b_eq  y0 y1 s) y2
def laws_eqPutS (a_a:List (Int × Str)) (a_b:List (Int × Str)):Option (Bool):=if ¬((a_a.length:Int) = (a_b.length:Int)) then some false else (laws_eqPutS_l1 a_a a_b 0).bind fun r7=>Sum.elim (fun u8=>some true) (fun u9=>some u9) r7
@[simp] def g106_O:Bool → TV × List Blk:=fun r=>((.bool r),[])
def g106_E (a:(List (Int × Str)) × (List (Int × Str))):List TV:=[(.vs (rows a.1)),(.vs (rows a.2))]
theorem g106_run (a_a:List (Int × Str)) (a_b:List (Int × Str)) :callFn (X g106_S) g106_tf (g106_E (a_a,a_b)) [] = (laws_eqPutS a_a a_b).map g106_O:=by
  rw [callFn_eq]
  simp (maxSteps:=2000000) (maxDischargeDepth:=8) -implicitDefEqProofs [g106_tf,laws_eqPutS,g106_E] <;> (try simp only [map_to_bind,some_elim,g106_O])
def g106_r:Rule:=RlO g106_E (fun a=>laws_eqPutS a.1 a.2) g106_O
theorem g106_ok:RuleOk Tryz.prog 80 g106_r:=ok_rlo (S:=g106_S) (tf:=g106_tf) (SysOk.on ⟨g115_ok,trivial⟩ trivial) (trE_ok (ks:=[[0,1,5],[8]]) Tryz.func80 (by kernel_rfl)) fun a=>g106_run a.1 a.2
@[simp] theorem g106_app (y0 y1):g106_r [(.vs (rows y0)),(.vs (rows y1))] = (laws_eqPutS y0 y1).map g106_O :=
  RlO_app (enc:=g106_E) (by intro a b h; simp [g106_E,Prod.ext_iff] at h ⊢; simp [h]) (y0,y1)
/-! laws.eqDisk -/
def g107_tf:TFn:=⟨(sq [bx 2 0,bx 3 1,mk 4 (kb false)] [2,3] (.seq (sq [fa 5 0 2,ld 6 5,fa 7 0 3,ld 8 7,ca 9 79 [.t 6,.t 8],nt 10 9] [2,3,10] (.cond (.t 10) (.seq (.ops [mk 4 (kb false)]) (.keep (kp [(4,0)] [] 0) .ret)) .skip)) (.trim [2,3] (.seq (sq [fa 11 1 2,ld 12 11,fa 13 1 3,ld 14 13,ca 15 80 [.t 12,.t 14],nt 16 15] [2,3,16] (.cond (.t 16) (.seq (.ops [mk 4 (kb false)]) (.keep (kp [(4,0)] [] 0) .ret)) .skip)) (.trim [2,3] (.seq (sq [fa 17 2 2,ld 18 17,fa 19 2 3,ld 20 19,bn 21 .neq (.t 18) (.t 20)] [2,3,21] (.cond (.t 21) (.seq (.ops [mk 4 (kb false)]) (.keep (kp [(4,0)] [] 0) .ret)) .skip)) (.trim [2,3] (.seq (sq [fa 22 3 2,ld 23 22,fa 24 3 3,ld 25 24,oo 26 (.bin .bool .neq (.t 23) (.t 25))] [26] (.cond (.t 26) (.seq (.ops [mk 4 (kb false)]) (.keep (kp [(4,0)] [] 0) .ret)) .skip)) (.trim [] (.seq (.ops [mk 4 (kb true)]) (.keep (kp [(4,0)] [] 0) .ret))))))))))),[.t 4]⟩
abbrev g107_S:=Sys.on [(79,g67_r),(80,g106_r)] []
def laws_eqDisk (a_a:K0) (a_b:K0):Option (Bool):=(laws_eqStringS a_a.1 a_b.1).bind fun r1=>if ¬(r1 = true) then some false else (laws_eqPutS a_a.2.1 a_b.2.1).bind fun r2=>if ¬(r2 = true) then some false else if ¬(a_a.2.2.1 = a_b.2.2.1) then some false else if ((!(a_a.2.2.2 == a_b.2.2.2))) = true then some false else some true
@[simp] def g107_O:Bool → TV × List Blk:=fun r=>((.bool r),[])
def g107_E (a:K0 × K0):List TV:=[(.agg [(.vs (rows a.1.1)),(.vs (rows a.1.2.1)),(.int .i64 a.1.2.2.1),(.bool a.1.2.2.2)]),(.agg [(.vs (rows a.2.1)),(.vs (rows a.2.2.1)),(.int .i64 a.2.2.2.1),(.bool a.2.2.2.2)])]
theorem g107_run (a_a:K0) (a_b:K0) :callFn (X g107_S) g107_tf (g107_E (a_a,a_b)) [] = (laws_eqDisk a_a a_b).map g107_O:=by
  rw [callFn_eq]
  simp (maxSteps:=2000000) (maxDischargeDepth:=8) -implicitDefEqProofs [g107_tf,laws_eqDisk,g107_E] <;> (try simp only [map_to_bind,some_elim,g107_O])
def g107_r:Rule:=RlO g107_E (fun a=>laws_eqDisk a.1 a.2) g107_O
theorem g107_ok:RuleOk Tryz.prog 32 g107_r:=ok_rlo (S:=g107_S) (tf:=g107_tf) (SysOk.on ⟨g67_ok,g106_ok,trivial⟩ trivial) (trE_ok (ks:=[]) Tryz.func32 (by kernel_rfl)) fun a=>g107_run a.1 a.2
@[simp] theorem g107_app (y0 y1 y2 y3 y4 y5 y6 y7):g107_r [(.agg [(.vs (rows y0)),(.vs (rows y1)),(.int .i64 y2),(.bool y3)]),(.agg [(.vs (rows y4)),(.vs (rows y5)),(.int .i64 y6),(.bool y7)])] = (laws_eqDisk ((y0,y1,y2,y3)) ((y4,y5,y6,y7))).map g107_O :=
  RlO_app (enc:=g107_E) (by intro a b h; simp [g107_E,Prod.ext_iff] at h ⊢; simp [h]) ((y0,y1,y2,y3),(y4,y5,y6,y7))
/-! laws.eqSuper -/
def g91_tf:TFn:=⟨(sq [bx 2 0,bx 3 1,mk 4 (kb false)] [2,3] (.seq (sq [fa 5 0 2,ld 6 5,fa 7 0 3,ld 8 7,bn 9 .neq (.t 6) (.t 8)] [2,3,9] (.cond (.t 9) (.seq (.ops [mk 4 (kb false)]) (.keep (kp [(4,0)] [] 0) .ret)) .skip)) (.trim [2,3] (.seq (sq [fa 10 1 2,ld 11 10,fa 12 1 3,ld 13 12,bn 14 .neq (.t 11) (.t 13)] [2,3,14] (.cond (.t 14) (.seq (.ops [mk 4 (kb false)]) (.keep (kp [(4,0)] [] 0) .ret)) .skip)) (.trim [2,3] (.seq (sq [fa 15 2 2,ld 16 15,fa 17 2 3,ld 18 17,bn 19 .neq (.t 16) (.t 18)] [2,3,19] (.cond (.t 19) (.seq (.ops [mk 4 (kb false)]) (.keep (kp [(4,0)] [] 0) .ret)) .skip)) (.trim [2,3] (.seq (sq [fa 20 3 2,ld 21 20,fa 22 3 3,ld 23 22,bn 24 .neq (.t 21) (.t 23)] [24] (.cond (.t 24) (.seq (.ops [mk 4 (kb false)]) (.keep (kp [(4,0)] [] 0) .ret)) .skip)) (.trim [] (.seq (.ops [mk 4 (kb true)]) (.keep (kp [(4,0)] [] 0) .ret))))))))))),[.t 4]⟩
abbrev g91_S:=Sys.on [] []
def laws_eqSuper (a_a:Int × Int × Int × Int) (a_b:Int × Int × Int × Int):Option (Bool):=if ¬(a_a.1 = a_b.1) then some false else if ¬(a_a.2.1 = a_b.2.1) then some false else if ¬(a_a.2.2.1 = a_b.2.2.1) then some false else if ¬(a_a.2.2.2 = a_b.2.2.2) then some false else some true
@[simp] def g91_O:Bool → TV × List Blk:=fun r=>((.bool r),[])
def g91_E (a:(Int × Int × Int × Int) × (Int × Int × Int × Int)):List TV:=[(.agg [(.int .i64 a.1.1),(.int .i64 a.1.2.1),(.int .i64 a.1.2.2.1),(.int .i64 a.1.2.2.2)]),(.agg [(.int .i64 a.2.1),(.int .i64 a.2.2.1),(.int .i64 a.2.2.2.1),(.int .i64 a.2.2.2.2)])]
theorem g91_run (a_a:Int × Int × Int × Int) (a_b:Int × Int × Int × Int) :callFn (X g91_S) g91_tf (g91_E (a_a,a_b)) [] = (laws_eqSuper a_a a_b).map g91_O:=by
  rw [callFn_eq]
  simp (maxSteps:=2000000) (maxDischargeDepth:=8) -implicitDefEqProofs [g91_tf,laws_eqSuper,g91_E] <;> (try simp only [map_to_bind,some_elim,g91_O])
def g91_r:Rule:=RlO g91_E (fun a=>laws_eqSuper a.1 a.2) g91_O
theorem g91_ok:RuleOk Tryz.prog 33 g91_r:=ok_rlo (S:=g91_S) (tf:=g91_tf) (SysOk.on trivial trivial) (trE_ok (ks:=[]) Tryz.func33 (by kernel_rfl)) fun a=>g91_run a.1 a.2
@[simp] theorem g91_app (y0 y1 y2 y3 y4 y5 y6 y7):g91_r [(.agg [(.int .i64 y0),(.int .i64 y1),(.int .i64 y2),(.int .i64 y3)]),(.agg [(.int .i64 y4),(.int .i64 y5),(.int .i64 y6),(.int .i64 y7)])] = (laws_eqSuper ((y0,y1,y2,y3)) ((y4,y5,y6,y7))).map g91_O :=
  RlO_app (enc:=g91_E) (by intro a b h; simp [g91_E,Prod.ext_iff] at h ⊢; simp [h]) ((y0,y1,y2,y3),(y4,y5,y6,y7))
/-! laws.eqPage -/
def g108_tf:TFn:=⟨(sq [bx 2 0,bx 3 1,mk 4 (kb false)] [2,3] (.seq (sq [fa 5 0 2,ld 6 5,fa 7 0 3,ld 8 7,bn 9 .neq (.t 6) (.t 8)] [2,3,9] (.cond (.t 9) (.seq (.ops [mk 4 (kb false)]) (.keep (kp [(4,0)] [] 0) .ret)) .skip)) (.trim [2,3] (.seq (sq [fa 10 1 2,ld 11 10,fa 12 1 3,ld 13 12,oo 14 (.bin .str .neq (.t 11) (.t 13))] [14] (.cond (.t 14) (.seq (.ops [mk 4 (kb false)]) (.keep (kp [(4,0)] [] 0) .ret)) .skip)) (.trim [] (.seq (.ops [mk 4 (kb true)]) (.keep (kp [(4,0)] [] 0) .ret))))))),[.t 4]⟩
abbrev g108_S:=Sys.on [] []
def laws_eqPage (a_a:Int × Str) (a_b:Int × Str):Option (Bool):=if ¬(a_a.1 = a_b.1) then some false else if ¬(a_a.2 = a_b.2) then some false else some true
@[simp] def g108_O:Bool → TV × List Blk:=fun r=>((.bool r),[])
def g108_E (a:(Int × Str) × (Int × Str)):List TV:=[(.agg [(.int .i64 a.1.1),(.str a.1.2)]),(.agg [(.int .i64 a.2.1),(.str a.2.2)])]
theorem g108_run (a_a:Int × Str) (a_b:Int × Str) :callFn (X g108_S) g108_tf (g108_E (a_a,a_b)) [] = (laws_eqPage a_a a_b).map g108_O:=by
  rw [callFn_eq]
  simp (maxSteps:=2000000) (maxDischargeDepth:=8) -implicitDefEqProofs [g108_tf,laws_eqPage,g108_E] <;> (try simp only [map_to_bind,some_elim,g108_O])
def g108_r:Rule:=RlO g108_E (fun a=>laws_eqPage a.1 a.2) g108_O
theorem g108_ok:RuleOk Tryz.prog 81 g108_r:=ok_rlo (S:=g108_S) (tf:=g108_tf) (SysOk.on trivial trivial) (trE_ok (ks:=[]) Tryz.func81 (by kernel_rfl)) fun a=>g108_run a.1 a.2
@[simp] theorem g108_app (y0 y1 y2 y3):g108_r [(.agg [(.int .i64 y0),(.str y1)]),(.agg [(.int .i64 y2),(.str y3)])] = (laws_eqPage ((y0,y1)) ((y2,y3))).map g108_O :=
  RlO_app (enc:=g108_E) (by intro a b h; simp [g108_E,Prod.ext_iff] at h ⊢; simp [h]) ((y0,y1),(y2,y3))
/-! laws.eqPageS -/
def g92l1_cb:TC:=(.seq (sq [mo 11 5,mo 12 0,le 13 12,bn 14 .lss (.t 11) (.t 13)] [0,1,5,14] (.cond (.t 14) .skip (.keep (kp [] [] 0) (.exit 0)))) (.trim [0,1,5] (.seq (.block 1 (.seq (.draw [([],mo 17 0),([],mo 18 5),([0,1],ia 19 2 17 18),([0,1,2],ln 20 2 19),([],mo 21 1),([],mo 22 5),([4,5],ia 23 2 21 22),([4,5,6],ln 24 2 23)] [ca 25 81 [.t 20,.t 24],nt 26 25]) (.trim [0,1,5,26] (.cond (.t 26) (.seq (.ops [mk 4 (kb false)]) (.keep (kp [(4,0)] [] 0) .ret)) .skip)))) (.trim [0,1,5] (.after (.ops [mo 15 5,bn 16 .add (.t 15) (ki 1),mo 5 16]) (kp [(0,0),(1,0),(5,0)] [] 0))))))
def g92l1_c:TC:=.loop [0,1,5] g92l1_cb
def g92_tf:TFn:=⟨(sq [mk 4 (kb false)] [0,1] (.seq (sq [mo 6 0,le 7 6,mo 8 1,le 9 8,bn 10 .neq (.t 7) (.t 9)] [0,1,10] (.cond (.t 10) (.seq (.ops [mk 4 (kb false)]) (.keep (kp [(4,0)] [] 0) .ret)) .skip)) (.trim [0,1] (.seq (sq [mk 5 (ki 0)] [0,1,5] (.block 0 (.keep (kp [(0,0),(1,0),(5,0)] [] 0) g92l1_c))) (.trim [] (.seq (.ops [mk 4 (kb true)]) (.keep (kp [(4,0)] [] 0) .ret))))))),[.t 4]⟩
abbrev g92_S:=Sys.on [(81,g108_r)] []
@[reducible,simp] def g92l1_F:((Unit) ⊕ (Bool)) → Out:=(Sum.elim (fun t=>(.ext 0,[],[])) (fun t=>(.ret,[(4,(.bool t))],[])))
def laws_eqPageS_l1_b (v1:List (Int × Str)) (v2:List (Int × Str)) (v3:Int):Option ((Int) ⊕ ((Unit) ⊕ (Bool))):=if v3 < (v1.length:Int) then if 0 ≤ v3 then (v1[(v3).toNat]?).bind fun x4=>if 0 ≤ v3 then (v2[(v3).toNat]?).bind fun x5=>(laws_eqPage x4 x5).bind fun r6=>if ¬(r6 = true) then some (.inr (.inr false)) else some (.inl ((IntKind.i64.wrap (v3 + 1)))) else none else none else some (.inr (.inl ()))
theorem g92l1_b_eq  (v1:List (Int × Str)) (v2:List (Int × Str)) (v3:Int):X g92_S g92l1_cb (keepEnv [0,1,5] [(0,(.vs (rows v1))),(1,(.vs (rows v2))),(5,(.int .i64 v3))]) [] = (laws_eqPageS_l1_b v1 v2 v3).map (Sum.elim (fun s=>(TX.nrm,[(0,(.vs (rows v1))),(1,(.vs (rows v2))),(5,(.int .i64 s))],[])) g92l1_F):=by
  simp (maxSteps:=2000000) (maxDischargeDepth:=8) -implicitDefEqProofs [g92l1_cb,laws_eqPageS_l1_b] <;> (try simp only [map_to_bind,some_elim,g92l1_F])
def laws_eqPageS_l1 (v1:List (Int × Str)) (v2:List (Int × Str)) (s:Int):Option ((Unit) ⊕ (Bool)):=loopO (fun s=>laws_eqPageS_l1_b v1 v2 s) s
@[simp] theorem g92l1_eq (y0 y1 y2):X g92_S g92l1_c [(0,(.vs (rows y0))),(1,(.vs (rows y1))),(5,(.int .i64 y2))] [] = (laws_eqPageS_l1 y0 y1 y2).map g92l1_F:=by
  exact loop_X _ _ _ _ (by intro r; first | (simp; done) | (rcases r with r | r <;> simp; done) | (rcases r with r | r | r <;> simp; done) | (rcases r with r | r | r | r <;> simp)) (fun s=>g92l1_b_eq  y0 y1 s) y2
def laws_eqPageS (a_a:List (Int × Str)) (a_b:List (Int × Str)):Option (Bool):=if ¬((a_a.length:Int) = (a_b.length:Int)) then some false else (laws_eqPageS_l1 a_a a_b 0).bind fun r7=>Sum.elim (fun u8=>some true) (fun u9=>some u9) r7
@[simp] def g92_O:Bool → TV × List Blk:=fun r=>((.bool r),[])
def g92_E (a:(List (Int × Str)) × (List (Int × Str))):List TV:=[(.vs (rows a.1)),(.vs (rows a.2))]
theorem g92_run (a_a:List (Int × Str)) (a_b:List (Int × Str)) :callFn (X g92_S) g92_tf (g92_E (a_a,a_b)) [] = (laws_eqPageS a_a a_b).map g92_O:=by
  rw [callFn_eq]
  simp (maxSteps:=2000000) (maxDischargeDepth:=8) -implicitDefEqProofs [g92_tf,laws_eqPageS,g92_E] <;> (try simp only [map_to_bind,some_elim,g92_O])
def g92_r:Rule:=RlO g92_E (fun a=>laws_eqPageS a.1 a.2) g92_O
theorem g92_ok:RuleOk Tryz.prog 34 g92_r:=ok_rlo (S:=g92_S) (tf:=g92_tf) (SysOk.on ⟨g108_ok,trivial⟩ trivial) (trE_ok (ks:=[[0,1,5],[8]]) Tryz.func34 (by kernel_rfl)) fun a=>g92_run a.1 a.2
@[simp] theorem g92_app (y0 y1):g92_r [(.vs (rows y0)),(.vs (rows y1))] = (laws_eqPageS y0 y1).map g92_O :=
  RlO_app (enc:=g92_E) (by intro a b h; simp [g92_E,Prod.ext_iff] at h ⊢; simp [h]) (y0,y1)
/-! laws.eqPager -/
def g93_tf:TFn:=⟨(sq [bx 2 0,bx 3 1,mk 4 (kb false)] [2,3] (.seq (sq [fa 5 0 2,ln 6 4 5,fa 7 0 3,ln 8 4 7,ca 9 32 [.t 6,.t 8],nt 10 9] [2,3,10] (.cond (.t 10) (.seq (.ops [mk 4 (kb false)]) (.keep (kp [(4,0)] [] 0) .ret)) .skip)) (.trim [2,3] (.seq (sq [fa 11 4 2,ln 12 4 11,fa 13 4 3,ln 14 4 13,ca 15 33 [.t 12,.t 14],nt 16 15] [2,3,16] (.cond (.t 16) (.seq (.ops [mk 4 (kb false)]) (.keep (kp [(4,0)] [] 0) .ret)) .skip)) (.trim [2,3] (.seq (sq [fa 17 8 2,ld 18 17,fa 19 8 3,ld 20 19,bn 21 .neq (.t 18) (.t 20)] [2,3,21] (.cond (.t 21) (.seq (.ops [mk 4 (kb false)]) (.keep (kp [(4,0)] [] 0) .ret)) .skip)) (.trim [2,3] (.seq (sq [fa 22 9 2,ld 23 22,fa 24 9 3,ld 25 24,bn 26 .neq (.t 23) (.t 25)] [2,3,26] (.cond (.t 26) (.seq (.ops [mk 4 (kb false)]) (.keep (kp [(4,0)] [] 0) .ret)) .skip)) (.trim [2,3] (.seq (sq [fa 27 10 2,ld 28 27,fa 29 10 3,ld 30 29,ca 31 34 [.t 28,.t 30],nt 32 31] [2,3,32] (.cond (.t 32) (.seq (.ops [mk 4 (kb false)]) (.keep (kp [(4,0)] [] 0) .ret)) .skip)) (.trim [2,3] (.seq (sq [fa 33 11 2,ld 34 33,fa 35 11 3,ld 36 35,ca 37 34 [.t 34,.t 36],nt 38 37] [38] (.cond (.t 38) (.seq (.ops [mk 4 (kb false)]) (.keep (kp [(4,0)] [] 0) .ret)) .skip)) (.trim [] (.seq (.ops [mk 4 (kb true)]) (.keep (kp [(4,0)] [] 0) .ret))))))))))))))),[.t 4]⟩
abbrev g93_S:=Sys.on [(32,g107_r),(33,g91_r),(34,g92_r)] []
def laws_eqPager (a_a:K1) (a_b:K1):Option (Bool):=(laws_eqDisk a_a.1 a_b.1).bind fun r1=>if ¬(r1 = true) then some false else (laws_eqSuper a_a.2.1 a_b.2.1).bind fun r2=>if ¬(r2 = true) then some false else if ¬(a_a.2.2.1 = a_b.2.2.1) then some false else if ¬(a_a.2.2.2.1 = a_b.2.2.2.1) then some false else (laws_eqPageS a_a.2.2.2.2.1 a_b.2.2.2.2.1).bind fun r3=>if ¬(r3 = true) then some false else (laws_eqPageS a_a.2.2.2.2.2 a_b.2.2.2.2.2).bind fun r4=>if ¬(r4 = true) then some false else some true
@[simp] def g93_O:Bool → TV × List Blk:=fun r=>((.bool r),[])
def g93_E (a:K1 × K1):List TV:=[(.agg [(.vs (rows a.1.1.1)),(.vs (rows a.1.1.2.1)),(.int .i64 a.1.1.2.2.1),(.bool a.1.1.2.2.2),(.int .i64 a.1.2.1.1),(.int .i64 a.1.2.1.2.1),(.int .i64 a.1.2.1.2.2.1),(.int .i64 a.1.2.1.2.2.2),(.int .i64 a.1.2.2.1),(.int .i64 a.1.2.2.2.1),(.vs (rows a.1.2.2.2.2.1)),(.vs (rows a.1.2.2.2.2.2))]),(.agg [(.vs (rows a.2.1.1)),(.vs (rows a.2.1.2.1)),(.int .i64 a.2.1.2.2.1),(.bool a.2.1.2.2.2),(.int .i64 a.2.2.1.1),(.int .i64 a.2.2.1.2.1),(.int .i64 a.2.2.1.2.2.1),(.int .i64 a.2.2.1.2.2.2),(.int .i64 a.2.2.2.1),(.int .i64 a.2.2.2.2.1),(.vs (rows a.2.2.2.2.2.1)),(.vs (rows a.2.2.2.2.2.2))])]
theorem g93_run (a_a:K1) (a_b:K1) :callFn (X g93_S) g93_tf (g93_E (a_a,a_b)) [] = (laws_eqPager a_a a_b).map g93_O:=by
  rw [callFn_eq]
  simp (maxSteps:=2000000) (maxDischargeDepth:=8) -implicitDefEqProofs [g93_tf,laws_eqPager,g93_E] <;> (try simp only [map_to_bind,some_elim,g93_O])
def g93_r:Rule:=RlO g93_E (fun a=>laws_eqPager a.1 a.2) g93_O
theorem g93_ok:RuleOk Tryz.prog 11 g93_r:=ok_rlo (S:=g93_S) (tf:=g93_tf) (SysOk.on ⟨g107_ok,g91_ok,g92_ok,trivial⟩ trivial) (trE_ok (ks:=[]) Tryz.func11 (by kernel_rfl)) fun a=>g93_run a.1 a.2
@[simp] theorem g93_app (y0 y1 y2 y3 y4 y5 y6 y7 y8 y9 y10 y11 y12 y13 y14 y15 y16 y17 y18 y19 y20 y21 y22 y23):g93_r [(.agg [(.vs (rows y0)),(.vs (rows y1)),(.int .i64 y2),(.bool y3),(.int .i64 y4),(.int .i64 y5),(.int .i64 y6),(.int .i64 y7),(.int .i64 y8),(.int .i64 y9),(.vs (rows y10)),(.vs (rows y11))]),(.agg [(.vs (rows y12)),(.vs (rows y13)),(.int .i64 y14),(.bool y15),(.int .i64 y16),(.int .i64 y17),(.int .i64 y18),(.int .i64 y19),(.int .i64 y20),(.int .i64 y21),(.vs (rows y22)),(.vs (rows y23))])] = (laws_eqPager (((y0,y1,y2,y3),(y4,y5,y6,y7),y8,y9,y10,y11)) (((y12,y13,y14,y15),(y16,y17,y18,y19),y20,y21,y22,y23))).map g93_O :=
  RlO_app (enc:=g93_E) (by intro a b h; simp [g93_E,Prod.ext_iff] at h ⊢; simp [h]) (((y0,y1,y2,y3),(y4,y5,y6,y7),y8,y9,y10,y11),((y12,y13,y14,y15),(y16,y17,y18,y19),y20,y21,y22,y23))
/-! laws.markText -/
def g74l1_cb:TC:=(.seq (sq [mo 6 0,bn 7 .gtr (.t 6) (ki 0)] [0,3,7] (.cond (.t 7) .skip (.keep (kp [(3,0)] [] 0) (.exit 0)))) (.trim [0,3] (.block 1 (sq [mo 8 0,bn 9 .rem (.t 8) (ki 10),bn 10 .add (ki 48) (.t 9),oo 11 (.conv (.toInt .u8) (.t 10)),oo 12 (.bslice [(.int .u8 0)] 1 [(0,(.t 11))]),oo 13 (.conv .toStr (.t 12)),mo 14 3,oo 15 (.bin .str .add (.t 13) (.t 14)),mo 3 15] [0,3] (.after (.ops [mo 16 0,bn 17 .quo (.t 16) (ki 10),mo 0 17]) (kp [(0,0),(3,0)] [] 0))))))
def g74l1_c:TC:=.loop [0,3] g74l1_cb
def g74_tf:TFn:=⟨(sq [mk 2 (.c (.str []))] [0] (.seq (sq [mo 4 0,bn 5 .leq (.t 4) (ki 0)] [0,5] (.cond (.t 5) (.seq (.ops [mk 2 (.c (.str [109,48]))]) (.keep (kp [(2,0)] [] 0) .ret)) .skip)) (.trim [0] (sq [mk 3 (.c (.str []))] [0,3] (.seq (.block 0 (.keep (kp [(0,0),(3,0)] [] 0) g74l1_c)) (.trim [3] (.seq (.ops [mo 18 3,oo 19 (.bin .str .add (.c (.str [109])) (.t 18)),mo 2 19]) (.keep (kp [(2,0)] [] 0) .ret)))))))),[.t 2]⟩
abbrev g74_S:=Sys.on [] []
@[reducible,simp] def g74l1_F:Str → Out:=(fun t=>(.ext 0,[(3,(.str t))],[]))
def laws_markText_l1_b (v1:Int) (v2:Str):Option ((Int × Str) ⊕ (Str)):=if v1 > 0 then if ((((lit [(⟨UInt8.ofNat ((IntKind.u8.wrap ((IntKind.i64.wrap (48 + (Int.tmod v1 10)))))).toNat⟩:Bt)]:List Bt)).map Bt.v)).length + v2.length ≤ 9223372036854775807 then some (.inl ((IntKind.i64.wrap (Int.tdiv v1 10)),((((lit [(⟨UInt8.ofNat ((IntKind.u8.wrap ((IntKind.i64.wrap (48 + (Int.tmod v1 10)))))).toNat⟩:Bt)]:List Bt)).map Bt.v) ++ v2))) else none else some (.inr v2)
theorem g74l1_b_eq  (v1:Int) (v2:Str):X g74_S g74l1_cb (keepEnv [0,3] [(0,(.int .i64 v1)),(3,(.str v2))]) [] = (laws_markText_l1_b v1 v2).map (Sum.elim (fun s=>(TX.nrm,[(0,(.int .i64 s.1)),(3,(.str s.2))],[])) g74l1_F):=by
  simp (maxSteps:=2000000) (maxDischargeDepth:=8) -implicitDefEqProofs [g74l1_cb,laws_markText_l1_b,bslV_lit (α:=Bt) (zs:=[(.int .u8 0)])] <;> (try simp only [map_to_bind,some_elim,g74l1_F])
def laws_markText_l1  (s:Int × Str):Option (Str):=loopO (fun s=>laws_markText_l1_b  s.1 s.2) s
@[simp] theorem g74l1_eq (y0 y1):X g74_S g74l1_c [(0,(.int .i64 y0)),(3,(.str y1))] [] = (laws_markText_l1  (y0,y1)).map g74l1_F:=by
  exact loop_X _ _ _ _ (by intro r; first | (simp; done) | (rcases r with r | r <;> simp; done) | (rcases r with r | r | r <;> simp; done) | (rcases r with r | r | r | r <;> simp)) (fun s=>g74l1_b_eq   s.1 s.2) (y0,y1)
def laws_markText (a_k:Int):Option (Str):=if a_k ≤ 0 then some (([109,48]:Str)) else (laws_markText_l1 ((a_k,([]:Str)))).bind fun r3=>if (([109]:Str)).length + r3.length ≤ 9223372036854775807 then some ((([109]:Str) ++ r3)) else none
@[simp] def g74_O:Str → TV × List Blk:=fun r=>((.str r),[])
def g74_E (a:Int):List TV:=[(.int .i64 a)]
theorem g74_run (a_k:Int) :callFn (X g74_S) g74_tf (g74_E a_k) [] = (laws_markText a_k).map g74_O:=by
  rw [callFn_eq]
  simp (maxSteps:=2000000) (maxDischargeDepth:=8) -implicitDefEqProofs [g74_tf,laws_markText,g74_E,bslV_lit (α:=Bt) (zs:=[(.int .u8 0)])] <;> (try simp only [map_to_bind,some_elim,g74_O])
def g74_r:Rule:=RlO g74_E (fun a=>laws_markText a) g74_O
theorem g74_ok:RuleOk Tryz.prog 84 g74_r:=ok_rlo (S:=g74_S) (tf:=g74_tf) (SysOk.on trivial trivial) (trE_ok (ks:=[[0,3]]) Tryz.func84 (by kernel_rfl)) fun a=>g74_run a
@[simp] theorem g74_app (y0):g74_r [(.int .i64 y0)] = (laws_markText y0).map g74_O :=
  RlO_app (enc:=g74_E) (by intro a b h; simp [g74_E,Prod.ext_iff] at h ⊢; simp [h]) y0
/-! laws.markStringS -/
def g24l1_cb:TC:=(.seq (sq [mo 6 5,mo 7 0,le 8 7,bn 9 .lss (.t 6) (.t 8)] [0,1,5,9] (.cond (.t 9) .skip (.keep (kp [(1,0)] [(0,1)] 1) (.exit 0)))) (.trim [0,1,5] (.seq (.block 1 (sq [mo 12 0,mo 13 5,mo 14 1,ca 15 84 [.t 14],ia 16 1 12 13,⟨none,none,(.store 1 (.t 16) (.t 15))⟩] [0,1,5] (.ops [mo 17 1,bn 18 .add (.t 17) (ki 1),mo 1 18]))) (.trim [0,1,5] (.after (.ops [mo 10 5,bn 11 .add (.t 10) (ki 1),mo 5 11]) (kp [(0,0),(1,0),(5,0)] [(0,1)] 1))))))
def g24l1_c:TC:=.loop [0,1,5] g24l1_cb
def g24_tf:TFn:=⟨(sq [mk 4 (ki 0)] [0,1] (.seq (sq [mk 5 (ki 0)] [0,1,5] (.block 0 (.keep (kp [(0,0),(1,0),(5,0)] [(0,1)] 1) g24l1_c))) (.trim [1] (.seq (.ops [mo 19 1,mo 4 19]) (.keep (kp [(4,0)] [(0,1)] 1) .ret))))),[.t 4]⟩
abbrev g24_S:=Sys.on [(84,g74_r)] []
@[reducible,simp] def g24l1_F:(List Str × Int) → Out:=(fun t=>(.ext 0,[(1,(.int .i64 t.2))],[(ob 1 t.1)]))
def laws_markStringS_o35_l1_b (v1:List Str) (v2:Int) (v3:Int):Option ((List Str × Int × Int) ⊕ (List Str × Int)):=if v3 < ((v1.length:Nat):Int) then (laws_markText v2).bind fun r4=>if 0 ≤ v3 ∧ v3 < ((v1.length:Nat):Int) then (v1[(v3).toNat]?).bind fun x5=>some (.inl ((v1.set (v3).toNat r4),(IntKind.i64.wrap (v2 + 1)),(IntKind.i64.wrap (v3 + 1)))) else none else some (.inr (v1,v2))
theorem g24l1_b_eq  (v1:List Str) (v2:Int) (v3:Int):X g24_S g24l1_cb (keepEnv [0,1,5] [(0,(ow 0 v1.length)),(1,(.int .i64 v2)),(5,(.int .i64 v3))]) [(ob 1 v1)] = (laws_markStringS_o35_l1_b v1 v2 v3).map (Sum.elim (fun s=>(TX.nrm,[(0,(ow 0 s.1.length)),(1,(.int .i64 s.2.1)),(5,(.int .i64 s.2.2))],[(ob 1 s.1)])) g24l1_F):=by
  simp (maxSteps:=2000000) (maxDischargeDepth:=8) -implicitDefEqProofs [g24l1_cb,laws_markStringS_o35_l1_b] <;> (try simp only [map_to_bind,some_elim,g24l1_F])
def laws_markStringS_o35_l1  (s:List Str × Int × Int):Option (List Str × Int):=loopO (fun s=>laws_markStringS_o35_l1_b  s.1 s.2.1 s.2.2) s
@[simp] theorem g24l1_eq (y0:List Str)(y1 y2){n1:Nat}(h1:n1 = y0.length):X g24_S g24l1_c [(0,(ow 0 n1)),(1,(.int .i64 y1)),(5,(.int .i64 y2))] [(ob 1 y0)] = (laws_markStringS_o35_l1  (y0,y1,y2)).map g24l1_F:=by
  subst h1
  exact loop_X _ _ _ _ (by intro r; first | (simp; done) | (rcases r with r | r <;> simp; done) | (rcases r with r | r | r <;> simp; done) | (rcases r with r | r | r | r <;> simp)) (fun s=>g24l1_b_eq   s.1 s.2.1 s.2.2) (y0,y1,y2)
def laws_markStringS_o35 (a1:List Str) (a2:Int):Option (List Str × Int):=(laws_markStringS_o35_l1 ((a1,a2,0))).bind fun r6=>some (r6.1,r6.2)
@[simp] def g24_O:(List Str × Int) → TV × List Blk:=fun r=>((.int .i64 r.2),[(ob 1 r.1)])
abbrev g24_T:=List Str × Int
def g24_E (a:g24_T):List TV:=[(ow 0 a.1.length),(.int .i64 a.2)]
def g24_B (a:g24_T):List Blk:=[(ob 1 a.1)]
theorem g24_run (a1:List Str) (a2:Int) :callFn (X g24_S) g24_tf (g24_E (a1,a2)) (g24_B (a1,a2)) = (laws_markStringS_o35 a1 a2).map g24_O:=by
  rw [callFn_eq]
  simp (maxSteps:=2000000) (maxDischargeDepth:=8) -implicitDefEqProofs [g24_tf,laws_markStringS_o35,g24_E,g24_B] <;> (try simp only [map_to_bind,some_elim,g24_O])
def g24_r:MRule:=RmO g24_E g24_B (fun a=>(laws_markStringS_o35 a.1 a.2).bind fun r=>if r.1.length = a.1.length then some ((fixLen a.1 r.1),r.2) else none) g24_O
theorem g24_ok0:MRuleOk Tryz.prog 82 1 (RmO g24_E g24_B (fun a=>laws_markStringS_o35 a.1 a.2) g24_O):=ok_rmo (S:=g24_S) (tf:=g24_tf) (SysOk.on ⟨g74_ok,trivial⟩ trivial) (trE_ok (ks:=[[0,1,5]]) Tryz.func82 (by kernel_rfl)) (by rfl) (fun _=>by simp [g24_B]) (fun _=>by simp) fun a=>g24_run a.1 a.2
theorem g24_ok:MRuleOk Tryz.prog 82 1 g24_r:=g24_ok0.weak fun a r hr=>by
  simp only [Option.bind_eq_some_iff] at hr
  obtain ⟨x,h1,h2⟩:=hr
  split at h2
  · rename_i hc
    simp only [Option.some.injEq] at h2
    rw [h1,← h2]
    simp [fixLen,hc]
  · cases h2
@[simp] theorem g24_app (y0:List Str)(y1){n1:Nat}(h1:n1 = y0.length):g24_r [(ow 0 n1),(.int .i64 y1)] [(ob 1 y0)] = ((laws_markStringS_o35 y0 y1).bind fun r=>if r.1.length = y0.length then some ((fixLen y0 r.1),r.2) else none).map g24_O:=by
  subst h1
  exact RmO_app (enc:=g24_E) (encB:=g24_B) (by intro a b h h2; simp [g24_E,g24_B,Prod.ext_iff] at h h2 ⊢; simp [h,h2]) (y0,y1)
/-! laws.markPutS -/
def g40l1_cb:TC:=(.seq (sq [mo 6 5,mo 7 0,le 8 7,bn 9 .lss (.t 6) (.t 8)] [0,1,5,9] (.cond (.t 9) .skip (.keep (kp [(1,0)] [(0,1)] 1) (.exit 0)))) (.trim [0,1,5] (.seq (.block 1 (sq [mo 12 0,mo 13 5,mo 14 1,ia 15 2 12 13,fa 16 0 15,⟨none,none,(.store 1 (.t 16) (.t 14))⟩] [0,1,5] (sq [mo 17 1,bn 18 .add (.t 17) (ki 1),mo 1 18] [0,1,5] (sq [mo 19 0,mo 20 5,mo 21 1,ca 22 84 [.t 21],ia 23 2 19 20,fa 24 1 23,⟨none,none,(.store 1 (.t 24) (.t 22))⟩] [0,1,5] (.ops [mo 25 1,bn 26 .add (.t 25) (ki 1),mo 1 26]))))) (.trim [0,1,5] (.after (.ops [mo 10 5,bn 11 .add (.t 10) (ki 1),mo 5 11]) (kp [(0,0),(1,0),(5,0)] [(0,1)] 1))))))
def g40l1_c:TC:=.loop [0,1,5] g40l1_cb
def g40_tf:TFn:=⟨(sq [mk 4 (ki 0)] [0,1] (.seq (sq [mk 5 (ki 0)] [0,1,5] (.block 0 (.keep (kp [(0,0),(1,0),(5,0)] [(0,1)] 1) g40l1_c))) (.trim [1] (.seq (.ops [mo 27 1,mo 4 27]) (.keep (kp [(4,0)] [(0,1)] 1) .ret))))),[.t 4]⟩
abbrev g40_S:=Sys.on [(84,g74_r)] []
@[reducible,simp] def g40l1_F:((List (Int × Str)) × Int) → Out:=(fun t=>(.ext 0,[(1,(.int .i64 t.2))],[(ob 2 t.1)]))
def laws_markPutS_o2a_l1_b (v1:List (Int × Str)) (v2:Int) (v3:Int):Option (((List (Int × Str)) × Int × Int) ⊕ ((List (Int × Str)) × Int)):=if v3 < ((v1.length:Nat):Int) then if 0 ≤ v3 ∧ v3 < ((v1.length:Nat):Int) then (v1[(v3).toNat]?).bind fun x4=>(laws_markText ((IntKind.i64.wrap (v2 + 1)))).bind fun r5=>if 0 ≤ v3 ∧ v3 < ((v1.length:Nat):Int) then (((v1.set (v3).toNat (v2,x4.2)))[(v3).toNat]?).bind fun x6=>some (.inl ((((v1.set (v3).toNat (v2,x4.2))).set (v3).toNat (x6.1,r5)),(IntKind.i64.wrap ((IntKind.i64.wrap (v2 + 1)) + 1)),(IntKind.i64.wrap (v3 + 1)))) else none else none else some (.inr (v1,v2))
theorem g40l1_b_eq  (v1:List (Int × Str)) (v2:Int) (v3:Int):X g40_S g40l1_cb (keepEnv [0,1,5] [(0,(ow 0 v1.length)),(1,(.int .i64 v2)),(5,(.int .i64 v3))]) [(ob 2 v1)] = (laws_markPutS_o2a_l1_b v1 v2 v3).map (Sum.elim (fun s=>(TX.nrm,[(0,(ow 0 s.1.length)),(1,(.int .i64 s.2.1)),(5,(.int .i64 s.2.2))],[(ob 2 s.1)])) g40l1_F):=by
  simp (maxSteps:=2000000) (maxDischargeDepth:=8) -implicitDefEqProofs [g40l1_cb,laws_markPutS_o2a_l1_b] <;> (try simp only [map_to_bind,some_elim,g40l1_F])
def laws_markPutS_o2a_l1  (s:(List (Int × Str)) × Int × Int):Option ((List (Int × Str)) × Int):=loopO (fun s=>laws_markPutS_o2a_l1_b  s.1 s.2.1 s.2.2) s
@[simp] theorem g40l1_eq (y0:List (Int × Str))(y1 y2){n1:Nat}(h1:n1 = y0.length):X g40_S g40l1_c [(0,(ow 0 n1)),(1,(.int .i64 y1)),(5,(.int .i64 y2))] [(ob 2 y0)] = (laws_markPutS_o2a_l1  (y0,y1,y2)).map g40l1_F:=by
  subst h1
  exact loop_X _ _ _ _ (by intro r; first | (simp; done) | (rcases r with r | r <;> simp; done) | (rcases r with r | r | r <;> simp; done) | (rcases r with r | r | r | r <;> simp)) (fun s=>g40l1_b_eq   s.1 s.2.1 s.2.2) (y0,y1,y2)
def laws_markPutS_o2a (a1:List (Int × Str)) (a2:Int):Option ((List (Int × Str)) × Int):=(laws_markPutS_o2a_l1 ((a1,a2,0))).bind fun r7=>some (r7.1,r7.2)
@[simp] def g40_O:((List (Int × Str)) × Int) → TV × List Blk:=fun r=>((.int .i64 r.2),[(ob 2 r.1)])
abbrev g40_T:=(List (Int × Str)) × Int
def g40_E (a:g40_T):List TV:=[(ow 0 a.1.length),(.int .i64 a.2)]
def g40_B (a:g40_T):List Blk:=[(ob 2 a.1)]
theorem g40_run (a1:List (Int × Str)) (a2:Int) :callFn (X g40_S) g40_tf (g40_E (a1,a2)) (g40_B (a1,a2)) = (laws_markPutS_o2a a1 a2).map g40_O:=by
  rw [callFn_eq]
  simp (maxSteps:=2000000) (maxDischargeDepth:=8) -implicitDefEqProofs [g40_tf,laws_markPutS_o2a,g40_E,g40_B] <;> (try simp only [map_to_bind,some_elim,g40_O])
def g40_r:MRule:=RmO g40_E g40_B (fun a=>(laws_markPutS_o2a a.1 a.2).bind fun r=>if r.1.length = a.1.length then some ((fixLen a.1 r.1),r.2) else none) g40_O
theorem g40_ok0:MRuleOk Tryz.prog 83 1 (RmO g40_E g40_B (fun a=>laws_markPutS_o2a a.1 a.2) g40_O):=ok_rmo (S:=g40_S) (tf:=g40_tf) (SysOk.on ⟨g74_ok,trivial⟩ trivial) (trE_ok (ks:=[[0,1,5]]) Tryz.func83 (by kernel_rfl)) (by rfl) (fun _=>by simp [g40_B]) (fun _=>by simp) fun a=>g40_run a.1 a.2
theorem g40_ok:MRuleOk Tryz.prog 83 1 g40_r:=g40_ok0.weak fun a r hr=>by
  simp only [Option.bind_eq_some_iff] at hr
  obtain ⟨x,h1,h2⟩:=hr
  split at h2
  · rename_i hc
    simp only [Option.some.injEq] at h2
    rw [h1,← h2]
    simp [fixLen,hc]
  · cases h2
@[simp] theorem g40_app (y0:List (Int × Str))(y1){n1:Nat}(h1:n1 = y0.length):g40_r [(ow 0 n1),(.int .i64 y1)] [(ob 2 y0)] = ((laws_markPutS_o2a y0 y1).bind fun r=>if r.1.length = y0.length then some ((fixLen y0 r.1),r.2) else none).map g40_O:=by
  subst h1
  exact RmO_app (enc:=g40_E) (encB:=g40_B) (by intro a b h h2; simp [g40_E,g40_B,Prod.ext_iff] at h h2 ⊢; simp [h,h2]) (y0,y1)
/-! laws.markDisk -/
def g41_tf:TFn:=⟨(sq [bx 2 0,mk 4 (ki 0)] [1,2] (sq [fa 5 0 2,ld 6 5,mo 7 1,oo 8 (.callM 82 0 [0] [.t 6,.t 7]),mo 1 8] [1,2] (sq [fa 9 1 2,ld 10 9,mo 11 1,oo 12 (.callM 83 0 [1] [.t 10,.t 11]),mo 1 12] [1] (.seq (.ops [mo 13 1,mo 4 13]) (.keep (kp [(4,0)] [(0,1),(1,1)] 2) .ret))))),[.t 4]⟩
abbrev g41_S:=Sys.on [] [((82,0),(1,g24_r)),((83,0),(1,g40_r))]
def laws_markDisk_o3e (a1:List Str) (a2:List (Int × Str)) (a3:Int) (a4:Bool) (a5:Int):Option (List Str × (List (Int × Str)) × Int):=(laws_markStringS_o35 a1 a5).bind fun r1=>if r1.1.length = a1.length then (laws_markPutS_o2a a2 r1.2).bind fun r2=>if r2.1.length = a2.length then some ((fixLen a1 r1.1),(fixLen a2 r2.1),r2.2) else none else none
@[simp] def g41_O:(List Str × (List (Int × Str)) × Int) → TV × List Blk:=fun r=>((.int .i64 r.2.2),[(ob 1 r.1),(ob 2 r.2.1)])
abbrev g41_T:=List Str × (List (Int × Str)) × Int × Bool × Int
def g41_E (a:g41_T):List TV:=[(.agg [(ow 0 a.1.length),(ow 1 a.2.1.length),(.int .i64 a.2.2.1),(.bool a.2.2.2.1)]),(.int .i64 a.2.2.2.2)]
def g41_B (a:g41_T):List Blk:=[(ob 1 a.1),(ob 2 a.2.1)]
theorem g41_run (a1:List Str) (a2:List (Int × Str)) (a3:Int) (a4:Bool) (a5:Int) :callFn (X g41_S) g41_tf (g41_E (a1,a2,a3,a4,a5)) (g41_B (a1,a2,a3,a4,a5)) = (laws_markDisk_o3e a1 a2 a3 a4 a5).map g41_O:=by
  rw [callFn_eq]
  simp (maxSteps:=2000000) (maxDischargeDepth:=8) -implicitDefEqProofs [g41_tf,laws_markDisk_o3e,g41_E,g41_B] <;> (try simp only [map_to_bind,some_elim,g41_O])
def g41_r:MRule:=RmO g41_E g41_B (fun a=>(laws_markDisk_o3e a.1 a.2.1 a.2.2.1 a.2.2.2.1 a.2.2.2.2).bind fun r=>if r.1.length = a.1.length ∧ r.2.1.length = a.2.1.length then some ((fixLen a.1 r.1),(fixLen a.2.1 r.2.1),r.2.2) else none) g41_O
theorem g41_ok0:MRuleOk Tryz.prog 35 2 (RmO g41_E g41_B (fun a=>laws_markDisk_o3e a.1 a.2.1 a.2.2.1 a.2.2.2.1 a.2.2.2.2) g41_O):=ok_rmo (S:=g41_S) (tf:=g41_tf) (SysOk.on trivial ⟨g24_ok,g40_ok,trivial⟩) (trE_ok (ks:=[]) Tryz.func35 (by kernel_rfl)) (by rfl) (fun _=>by simp [g41_B]) (fun _=>by simp) fun a=>g41_run a.1 a.2.1 a.2.2.1 a.2.2.2.1 a.2.2.2.2
theorem g41_ok:MRuleOk Tryz.prog 35 2 g41_r:=g41_ok0.weak fun a r hr=>by
  simp only [Option.bind_eq_some_iff] at hr
  obtain ⟨x,h1,h2⟩:=hr
  split at h2
  · rename_i hc
    simp only [Option.some.injEq] at h2
    rw [h1,← h2]
    simp [fixLen,hc]
  · cases h2
@[simp] theorem g41_app (y0:List Str)(y1:List (Int × Str))(y2 y3 y4){n1:Nat}(h1:n1 = y0.length){n2:Nat}(h2:n2 = y1.length):g41_r [(.agg [(ow 0 n1),(ow 1 n2),(.int .i64 y2),(.bool y3)]),(.int .i64 y4)] [(ob 1 y0),(ob 2 y1)] = ((laws_markDisk_o3e y0 y1 y2 y3 y4).bind fun r=>if r.1.length = y0.length ∧ r.2.1.length = y1.length then some ((fixLen y0 r.1),(fixLen y1 r.2.1),r.2.2) else none).map g41_O:=by
  subst h1 h2
  exact RmO_app (enc:=g41_E) (encB:=g41_B) (by intro a b h h2; simp [g41_E,g41_B,Prod.ext_iff] at h h2 ⊢; simp [h,h2]) (y0,y1,y2,y3,y4)
/-! laws.markPageS -/
def g27l1_cb:TC:=(.seq (sq [mo 6 5,mo 7 0,le 8 7,bn 9 .lss (.t 6) (.t 8)] [0,1,5,9] (.cond (.t 9) .skip (.keep (kp [(1,0)] [(0,1)] 1) (.exit 0)))) (.trim [0,1,5] (.seq (.block 1 (sq [mo 12 0,mo 13 5,mo 14 1,ia 15 2 12 13,fa 16 0 15,⟨none,none,(.store 1 (.t 16) (.t 14))⟩] [0,1,5] (sq [mo 17 1,bn 18 .add (.t 17) (ki 1),mo 1 18] [0,1,5] (sq [mo 19 0,mo 20 5,mo 21 1,ca 22 84 [.t 21],ia 23 2 19 20,fa 24 1 23,⟨none,none,(.store 1 (.t 24) (.t 22))⟩] [0,1,5] (.ops [mo 25 1,bn 26 .add (.t 25) (ki 1),mo 1 26]))))) (.trim [0,1,5] (.after (.ops [mo 10 5,bn 11 .add (.t 10) (ki 1),mo 5 11]) (kp [(0,0),(1,0),(5,0)] [(0,1)] 1))))))
def g27l1_c:TC:=.loop [0,1,5] g27l1_cb
def g27_tf:TFn:=⟨(sq [mk 4 (ki 0)] [0,1] (.seq (sq [mk 5 (ki 0)] [0,1,5] (.block 0 (.keep (kp [(0,0),(1,0),(5,0)] [(0,1)] 1) g27l1_c))) (.trim [1] (.seq (.ops [mo 27 1,mo 4 27]) (.keep (kp [(4,0)] [(0,1)] 1) .ret))))),[.t 4]⟩
abbrev g27_S:=Sys.on [(84,g74_r)] []
@[reducible,simp] def g27l1_F:((List (Int × Str)) × Int) → Out:=(fun t=>(.ext 0,[(1,(.int .i64 t.2))],[(ob 2 t.1)]))
def laws_markPageS_o2a_l1_b (v1:List (Int × Str)) (v2:Int) (v3:Int):Option (((List (Int × Str)) × Int × Int) ⊕ ((List (Int × Str)) × Int)):=if v3 < ((v1.length:Nat):Int) then if 0 ≤ v3 ∧ v3 < ((v1.length:Nat):Int) then (v1[(v3).toNat]?).bind fun x4=>(laws_markText ((IntKind.i64.wrap (v2 + 1)))).bind fun r5=>if 0 ≤ v3 ∧ v3 < ((v1.length:Nat):Int) then (((v1.set (v3).toNat (v2,x4.2)))[(v3).toNat]?).bind fun x6=>some (.inl ((((v1.set (v3).toNat (v2,x4.2))).set (v3).toNat (x6.1,r5)),(IntKind.i64.wrap ((IntKind.i64.wrap (v2 + 1)) + 1)),(IntKind.i64.wrap (v3 + 1)))) else none else none else some (.inr (v1,v2))
theorem g27l1_b_eq  (v1:List (Int × Str)) (v2:Int) (v3:Int):X g27_S g27l1_cb (keepEnv [0,1,5] [(0,(ow 0 v1.length)),(1,(.int .i64 v2)),(5,(.int .i64 v3))]) [(ob 2 v1)] = (laws_markPageS_o2a_l1_b v1 v2 v3).map (Sum.elim (fun s=>(TX.nrm,[(0,(ow 0 s.1.length)),(1,(.int .i64 s.2.1)),(5,(.int .i64 s.2.2))],[(ob 2 s.1)])) g27l1_F):=by
  simp (maxSteps:=2000000) (maxDischargeDepth:=8) -implicitDefEqProofs [g27l1_cb,laws_markPageS_o2a_l1_b] <;> (try simp only [map_to_bind,some_elim,g27l1_F])
def laws_markPageS_o2a_l1  (s:(List (Int × Str)) × Int × Int):Option ((List (Int × Str)) × Int):=loopO (fun s=>laws_markPageS_o2a_l1_b  s.1 s.2.1 s.2.2) s
@[simp] theorem g27l1_eq (y0:List (Int × Str))(y1 y2){n1:Nat}(h1:n1 = y0.length):X g27_S g27l1_c [(0,(ow 0 n1)),(1,(.int .i64 y1)),(5,(.int .i64 y2))] [(ob 2 y0)] = (laws_markPageS_o2a_l1  (y0,y1,y2)).map g27l1_F:=by
  subst h1
  exact loop_X _ _ _ _ (by intro r; first | (simp; done) | (rcases r with r | r <;> simp; done) | (rcases r with r | r | r <;> simp; done) | (rcases r with r | r | r | r <;> simp)) (fun s=>g27l1_b_eq   s.1 s.2.1 s.2.2) (y0,y1,y2)
def laws_markPageS_o2a (a1:List (Int × Str)) (a2:Int):Option ((List (Int × Str)) × Int):=(laws_markPageS_o2a_l1 ((a1,a2,0))).bind fun r7=>some (r7.1,r7.2)
@[simp] def g27_O:((List (Int × Str)) × Int) → TV × List Blk:=fun r=>((.int .i64 r.2),[(ob 2 r.1)])
abbrev g27_T:=(List (Int × Str)) × Int
def g27_E (a:g27_T):List TV:=[(ow 0 a.1.length),(.int .i64 a.2)]
def g27_B (a:g27_T):List Blk:=[(ob 2 a.1)]
theorem g27_run (a1:List (Int × Str)) (a2:Int) :callFn (X g27_S) g27_tf (g27_E (a1,a2)) (g27_B (a1,a2)) = (laws_markPageS_o2a a1 a2).map g27_O:=by
  rw [callFn_eq]
  simp (maxSteps:=2000000) (maxDischargeDepth:=8) -implicitDefEqProofs [g27_tf,laws_markPageS_o2a,g27_E,g27_B] <;> (try simp only [map_to_bind,some_elim,g27_O])
def g27_r:MRule:=RmO g27_E g27_B (fun a=>(laws_markPageS_o2a a.1 a.2).bind fun r=>if r.1.length = a.1.length then some ((fixLen a.1 r.1),r.2) else none) g27_O
theorem g27_ok0:MRuleOk Tryz.prog 36 1 (RmO g27_E g27_B (fun a=>laws_markPageS_o2a a.1 a.2) g27_O):=ok_rmo (S:=g27_S) (tf:=g27_tf) (SysOk.on ⟨g74_ok,trivial⟩ trivial) (trE_ok (ks:=[[0,1,5]]) Tryz.func36 (by kernel_rfl)) (by rfl) (fun _=>by simp [g27_B]) (fun _=>by simp) fun a=>g27_run a.1 a.2
theorem g27_ok:MRuleOk Tryz.prog 36 1 g27_r:=g27_ok0.weak fun a r hr=>by
  simp only [Option.bind_eq_some_iff] at hr
  obtain ⟨x,h1,h2⟩:=hr
  split at h2
  · rename_i hc
    simp only [Option.some.injEq] at h2
    rw [h1,← h2]
    simp [fixLen,hc]
  · cases h2
@[simp] theorem g27_app (y0:List (Int × Str))(y1){n1:Nat}(h1:n1 = y0.length):g27_r [(ow 0 n1),(.int .i64 y1)] [(ob 2 y0)] = ((laws_markPageS_o2a y0 y1).bind fun r=>if r.1.length = y0.length then some ((fixLen y0 r.1),r.2) else none).map g27_O:=by
  subst h1
  exact RmO_app (enc:=g27_E) (encB:=g27_B) (by intro a b h h2; simp [g27_E,g27_B,Prod.ext_iff] at h h2 ⊢; simp [h,h2]) (y0,y1)
/-! laws.markPager -/
def g28_tf:TFn:=⟨(sq [bx 2 0,mk 4 (ki 0)] [1,2] (sq [fa 5 0 2,ln 6 4 5,mo 7 1,oo 8 (.callM 35 0 [0,1] [.t 6,.t 7]),mo 1 8] [1,2] (sq [fa 9 10 2,ld 10 9,mo 11 1,oo 12 (.callM 36 0 [2] [.t 10,.t 11]),mo 1 12] [1,2] (sq [fa 13 11 2,ld 14 13,mo 15 1,oo 16 (.callM 36 0 [3] [.t 14,.t 15]),mo 1 16] [1] (.seq (.ops [mo 17 1,mo 4 17]) (.keep (kp [(4,0)] [(0,1),(1,1),(2,1),(3,1)] 4) .ret)))))),[.t 4]⟩
abbrev g28_S:=Sys.on [] [((35,0),(2,g41_r)),((36,0),(1,g27_r))]
def laws_markPager_o71 (a1:List Str) (a2:List (Int × Str)) (a3:Int) (a4:Bool) (a5:Int) (a6:Int) (a7:Int) (a8:Int) (a9:Int) (a10:Int) (a11:List (Int × Str)) (a12:List (Int × Str)) (a13:Int):Option (List Str × (List (Int × Str)) × (List (Int × Str)) × (List (Int × Str)) × Int):=(laws_markDisk_o3e a1 a2 a3 a4 a13).bind fun r1=>if r1.1.length = a1.length ∧ r1.2.1.length = a2.length then (laws_markPageS_o2a a11 r1.2.2).bind fun r2=>if r2.1.length = a11.length then (laws_markPageS_o2a a12 r2.2).bind fun r3=>if r3.1.length = a12.length then some ((fixLen a1 r1.1),(fixLen a2 r1.2.1),(fixLen a11 r2.1),(fixLen a12 r3.1),r3.2) else none else none else none
@[simp] def g28_O:(List Str × (List (Int × Str)) × (List (Int × Str)) × (List (Int × Str)) × Int) → TV × List Blk:=fun r=>((.int .i64 r.2.2.2.2),[(ob 1 r.1),(ob 2 r.2.1),(ob 2 r.2.2.1),(ob 2 r.2.2.2.1)])
abbrev g28_T:=List Str × (List (Int × Str)) × Int × Bool × Int × Int × Int × Int × Int × Int × (List (Int × Str)) × (List (Int × Str)) × Int
def g28_E (a:g28_T):List TV:=[(.agg [(ow 0 a.1.length),(ow 1 a.2.1.length),(.int .i64 a.2.2.1),(.bool a.2.2.2.1),(.int .i64 a.2.2.2.2.1),(.int .i64 a.2.2.2.2.2.1),(.int .i64 a.2.2.2.2.2.2.1),(.int .i64 a.2.2.2.2.2.2.2.1),(.int .i64 a.2.2.2.2.2.2.2.2.1),(.int .i64 a.2.2.2.2.2.2.2.2.2.1),(ow 2 a.2.2.2.2.2.2.2.2.2.2.1.length),(ow 3 a.2.2.2.2.2.2.2.2.2.2.2.1.length)]),(.int .i64 a.2.2.2.2.2.2.2.2.2.2.2.2)]
def g28_B (a:g28_T):List Blk:=[(ob 1 a.1),(ob 2 a.2.1),(ob 2 a.2.2.2.2.2.2.2.2.2.2.1),(ob 2 a.2.2.2.2.2.2.2.2.2.2.2.1)]
theorem g28_run (a1:List Str) (a2:List (Int × Str)) (a3:Int) (a4:Bool) (a5:Int) (a6:Int) (a7:Int) (a8:Int) (a9:Int) (a10:Int) (a11:List (Int × Str)) (a12:List (Int × Str)) (a13:Int) :callFn (X g28_S) g28_tf (g28_E (a1,a2,a3,a4,a5,a6,a7,a8,a9,a10,a11,a12,a13)) (g28_B (a1,a2,a3,a4,a5,a6,a7,a8,a9,a10,a11,a12,a13)) = (laws_markPager_o71 a1 a2 a3 a4 a5 a6 a7 a8 a9 a10 a11 a12 a13).map g28_O:=by
  rw [callFn_eq]
  simp (maxSteps:=2000000) (maxDischargeDepth:=8) -implicitDefEqProofs [g28_tf,laws_markPager_o71,g28_E,g28_B] <;> (try simp only [map_to_bind,some_elim,g28_O])
def g28_r:MRule:=RmO g28_E g28_B (fun a=>(laws_markPager_o71 a.1 a.2.1 a.2.2.1 a.2.2.2.1 a.2.2.2.2.1 a.2.2.2.2.2.1 a.2.2.2.2.2.2.1 a.2.2.2.2.2.2.2.1 a.2.2.2.2.2.2.2.2.1 a.2.2.2.2.2.2.2.2.2.1 a.2.2.2.2.2.2.2.2.2.2.1 a.2.2.2.2.2.2.2.2.2.2.2.1 a.2.2.2.2.2.2.2.2.2.2.2.2).bind fun r=>if r.1.length = a.1.length ∧ r.2.1.length = a.2.1.length ∧ r.2.2.1.length = a.2.2.2.2.2.2.2.2.2.2.1.length ∧ r.2.2.2.1.length = a.2.2.2.2.2.2.2.2.2.2.2.1.length then some ((fixLen a.1 r.1),(fixLen a.2.1 r.2.1),(fixLen a.2.2.2.2.2.2.2.2.2.2.1 r.2.2.1),(fixLen a.2.2.2.2.2.2.2.2.2.2.2.1 r.2.2.2.1),r.2.2.2.2) else none) g28_O
theorem g28_ok0:MRuleOk Tryz.prog 12 4 (RmO g28_E g28_B (fun a=>laws_markPager_o71 a.1 a.2.1 a.2.2.1 a.2.2.2.1 a.2.2.2.2.1 a.2.2.2.2.2.1 a.2.2.2.2.2.2.1 a.2.2.2.2.2.2.2.1 a.2.2.2.2.2.2.2.2.1 a.2.2.2.2.2.2.2.2.2.1 a.2.2.2.2.2.2.2.2.2.2.1 a.2.2.2.2.2.2.2.2.2.2.2.1 a.2.2.2.2.2.2.2.2.2.2.2.2) g28_O):=ok_rmo (S:=g28_S) (tf:=g28_tf) (SysOk.on trivial ⟨g41_ok,g27_ok,trivial⟩) (trE_ok (ks:=[]) Tryz.func12 (by kernel_rfl)) (by rfl) (fun _=>by simp [g28_B]) (fun _=>by simp) fun a=>g28_run a.1 a.2.1 a.2.2.1 a.2.2.2.1 a.2.2.2.2.1 a.2.2.2.2.2.1 a.2.2.2.2.2.2.1 a.2.2.2.2.2.2.2.1 a.2.2.2.2.2.2.2.2.1 a.2.2.2.2.2.2.2.2.2.1 a.2.2.2.2.2.2.2.2.2.2.1 a.2.2.2.2.2.2.2.2.2.2.2.1 a.2.2.2.2.2.2.2.2.2.2.2.2
theorem g28_ok:MRuleOk Tryz.prog 12 4 g28_r:=g28_ok0.weak fun a r hr=>by
  simp only [Option.bind_eq_some_iff] at hr
  obtain ⟨x,h1,h2⟩:=hr
  split at h2
  · rename_i hc
    simp only [Option.some.injEq] at h2
    rw [h1,← h2]
    simp [fixLen,hc]
  · cases h2
@[simp] theorem g28_app (y0:List Str)(y1:List (Int × Str))(y2 y3 y4 y5 y6 y7 y8 y9)(y10:List (Int × Str))(y11:List (Int × Str))(y12){n1:Nat}(h1:n1 = y0.length){n2:Nat}(h2:n2 = y1.length){n3:Nat}(h3:n3 = y10.length){n4:Nat}(h4:n4 = y11.length):g28_r [(.agg [(ow 0 n1),(ow 1 n2),(.int .i64 y2),(.bool y3),(.int .i64 y4),(.int .i64 y5),(.int .i64 y6),(.int .i64 y7),(.int .i64 y8),(.int .i64 y9),(ow 2 n3),(ow 3 n4)]),(.int .i64 y12)] [(ob 1 y0),(ob 2 y1),(ob 2 y10),(ob 2 y11)] = ((laws_markPager_o71 y0 y1 y2 y3 y4 y5 y6 y7 y8 y9 y10 y11 y12).bind fun r=>if r.1.length = y0.length ∧ r.2.1.length = y1.length ∧ r.2.2.1.length = y10.length ∧ r.2.2.2.1.length = y11.length then some ((fixLen y0 r.1),(fixLen y1 r.2.1),(fixLen y10 r.2.2.1),(fixLen y11 r.2.2.2.1),r.2.2.2.2) else none).map g28_O:=by
  subst h1 h2 h3 h4
  exact RmO_app (enc:=g28_E) (encB:=g28_B) (by intro a b h h2; simp [g28_E,g28_B,Prod.ext_iff] at h h2 ⊢; simp [h,h2]) (y0,y1,y2,y3,y4,y5,y6,y7,y8,y9,y10,y11,y12)
/-! laws.markInt64S -/
def g26l1_cb:TC:=(.seq (sq [mo 6 5,mo 7 0,le 8 7,bn 9 .lss (.t 6) (.t 8)] [0,1,5,9] (.cond (.t 9) .skip (.keep (kp [(1,0)] [(0,1)] 1) (.exit 0)))) (.trim [0,1,5] (.seq (.block 1 (sq [mo 12 0,mo 13 5,mo 14 1,ia 15 1 12 13,⟨none,none,(.store 1 (.t 15) (.t 14))⟩] [0,1,5] (.ops [mo 16 1,bn 17 .add (.t 16) (ki 1),mo 1 17]))) (.trim [0,1,5] (.after (.ops [mo 10 5,bn 11 .add (.t 10) (ki 1),mo 5 11]) (kp [(0,0),(1,0),(5,0)] [(0,1)] 1))))))
def g26l1_c:TC:=.loop [0,1,5] g26l1_cb
def g26_tf:TFn:=⟨(sq [mk 4 (ki 0)] [0,1] (.seq (sq [mk 5 (ki 0)] [0,1,5] (.block 0 (.keep (kp [(0,0),(1,0),(5,0)] [(0,1)] 1) g26l1_c))) (.trim [1] (.seq (.ops [mo 18 1,mo 4 18]) (.keep (kp [(4,0)] [(0,1)] 1) .ret))))),[.t 4]⟩
abbrev g26_S:=Sys.on [] []
@[reducible,simp] def g26l1_F:(List Int × Int) → Out:=(fun t=>(.ext 0,[(1,(.int .i64 t.2))],[(ob 1 t.1)]))
def laws_markInt64S_o5f_l1_b (v1:List Int) (v2:Int) (v3:Int):Option ((List Int × Int × Int) ⊕ (List Int × Int)):=if v3 < ((v1.length:Nat):Int) then if 0 ≤ v3 ∧ v3 < ((v1.length:Nat):Int) then (v1[(v3).toNat]?).bind fun x4=>some (.inl ((v1.set (v3).toNat v2),(IntKind.i64.wrap (v2 + 1)),(IntKind.i64.wrap (v3 + 1)))) else none else some (.inr (v1,v2))
theorem g26l1_b_eq  (v1:List Int) (v2:Int) (v3:Int):X g26_S g26l1_cb (keepEnv [0,1,5] [(0,(ow 0 v1.length)),(1,(.int .i64 v2)),(5,(.int .i64 v3))]) [(ob 1 v1)] = (laws_markInt64S_o5f_l1_b v1 v2 v3).map (Sum.elim (fun s=>(TX.nrm,[(0,(ow 0 s.1.length)),(1,(.int .i64 s.2.1)),(5,(.int .i64 s.2.2))],[(ob 1 s.1)])) g26l1_F):=by
  simp (maxSteps:=2000000) (maxDischargeDepth:=8) -implicitDefEqProofs [g26l1_cb,laws_markInt64S_o5f_l1_b] <;> (try simp only [map_to_bind,some_elim,g26l1_F])
def laws_markInt64S_o5f_l1  (s:List Int × Int × Int):Option (List Int × Int):=loopO (fun s=>laws_markInt64S_o5f_l1_b  s.1 s.2.1 s.2.2) s
@[simp] theorem g26l1_eq (y0:List Int)(y1 y2){n1:Nat}(h1:n1 = y0.length):X g26_S g26l1_c [(0,(ow 0 n1)),(1,(.int .i64 y1)),(5,(.int .i64 y2))] [(ob 1 y0)] = (laws_markInt64S_o5f_l1  (y0,y1,y2)).map g26l1_F:=by
  subst h1
  exact loop_X _ _ _ _ (by intro r; first | (simp; done) | (rcases r with r | r <;> simp; done) | (rcases r with r | r | r <;> simp; done) | (rcases r with r | r | r | r <;> simp)) (fun s=>g26l1_b_eq   s.1 s.2.1 s.2.2) (y0,y1,y2)
def laws_markInt64S_o5f (a1:List Int) (a2:Int):Option (List Int × Int):=(laws_markInt64S_o5f_l1 ((a1,a2,0))).bind fun r5=>some (r5.1,r5.2)
@[simp] def g26_O:(List Int × Int) → TV × List Blk:=fun r=>((.int .i64 r.2),[(ob 1 r.1)])
abbrev g26_T:=List Int × Int
def g26_E (a:g26_T):List TV:=[(ow 0 a.1.length),(.int .i64 a.2)]
def g26_B (a:g26_T):List Blk:=[(ob 1 a.1)]
theorem g26_run (a1:List Int) (a2:Int) :callFn (X g26_S) g26_tf (g26_E (a1,a2)) (g26_B (a1,a2)) = (laws_markInt64S_o5f a1 a2).map g26_O:=by
  rw [callFn_eq]
  simp (maxSteps:=2000000) (maxDischargeDepth:=8) -implicitDefEqProofs [g26_tf,laws_markInt64S_o5f,g26_E,g26_B] <;> (try simp only [map_to_bind,some_elim,g26_O])
def g26_r:MRule:=RmO g26_E g26_B (fun a=>(laws_markInt64S_o5f a.1 a.2).bind fun r=>if r.1.length = a.1.length then some ((fixLen a.1 r.1),r.2) else none) g26_O
theorem g26_ok0:MRuleOk Tryz.prog 13 1 (RmO g26_E g26_B (fun a=>laws_markInt64S_o5f a.1 a.2) g26_O):=ok_rmo (S:=g26_S) (tf:=g26_tf) (SysOk.on trivial trivial) (trE_ok (ks:=[[0,1,5]]) Tryz.func13 (by kernel_rfl)) (by rfl) (fun _=>by simp [g26_B]) (fun _=>by simp) fun a=>g26_run a.1 a.2
theorem g26_ok:MRuleOk Tryz.prog 13 1 g26_r:=g26_ok0.weak fun a r hr=>by
  simp only [Option.bind_eq_some_iff] at hr
  obtain ⟨x,h1,h2⟩:=hr
  split at h2
  · rename_i hc
    simp only [Option.some.injEq] at h2
    rw [h1,← h2]
    simp [fixLen,hc]
  · cases h2
@[simp] theorem g26_app (y0:List Int)(y1){n1:Nat}(h1:n1 = y0.length):g26_r [(ow 0 n1),(.int .i64 y1)] [(ob 1 y0)] = ((laws_markInt64S_o5f y0 y1).bind fun r=>if r.1.length = y0.length then some ((fixLen y0 r.1),r.2) else none).map g26_O:=by
  subst h1
  exact RmO_app (enc:=g26_E) (encB:=g26_B) (by intro a b h h2; simp [g26_E,g26_B,Prod.ext_iff] at h h2 ⊢; simp [h,h2]) (y0,y1)
/-! laws.heldInt64S -/
def g54l1_cb:TC:=(.seq (sq [mo 6 5,mo 7 0,le 8 7,bn 9 .lss (.t 6) (.t 8)] [0,1,5,9] (.cond (.t 9) .skip (.keep (kp [(1,0)] [] 0) (.exit 0)))) (.trim [0,1,5] (.seq (.block 1 (.seq (sq [mo 12 0,mo 13 5,ia 14 1 12 13,ld 15 14,mo 16 1,bn 17 .neq (.t 15) (.t 16)] [0,1,5,17] (.cond (.t 17) (.seq (.ops [mk 4 (ki (-1))]) (.keep (kp [(4,0)] [] 0) .ret)) .skip)) (.trim [0,1,5] (.ops [mo 18 1,bn 19 .add (.t 18) (ki 1),mo 1 19])))) (.trim [0,1,5] (.after (.ops [mo 10 5,bn 11 .add (.t 10) (ki 1),mo 5 11]) (kp [(0,0),(1,0),(5,0)] [] 0))))))
def g54l1_c:TC:=.loop [0,1,5] g54l1_cb
def g54_tf:TFn:=⟨(sq [mk 4 (ki 0)] [0,1] (.seq (sq [mk 5 (ki 0)] [0,1,5] (.block 0 (.keep (kp [(0,0),(1,0),(5,0)] [] 0) g54l1_c))) (.trim [1] (.seq (.ops [mo 20 1,mo 4 20]) (.keep (kp [(4,0)] [] 0) .ret))))),[.t 4]⟩
abbrev g54_S:=Sys.on [] []
@[reducible,simp] def g54l1_F:((Int) ⊕ (Int)) → Out:=(Sum.elim (fun t=>(.ext 0,[(1,(.int .i64 t))],[])) (fun t=>(.ret,[(4,(.int .i64 t))],[])))
def laws_heldInt64S_l1_b (v1:List Int) (v2:Int) (v3:Int):Option ((Int × Int) ⊕ ((Int) ⊕ (Int))):=if v3 < (v1.length:Int) then if 0 ≤ v3 then (v1[(v3).toNat]?).bind fun x4=>if ¬(x4 = v2) then some (.inr (.inr ((-1)))) else some (.inl ((IntKind.i64.wrap (v2 + 1)),(IntKind.i64.wrap (v3 + 1)))) else none else some (.inr (.inl v2))
theorem g54l1_b_eq  (v1:List Int) (v2:Int) (v3:Int):X g54_S g54l1_cb (keepEnv [0,1,5] [(0,(.vs (rows v1))),(1,(.int .i64 v2)),(5,(.int .i64 v3))]) [] = (laws_heldInt64S_l1_b v1 v2 v3).map (Sum.elim (fun s=>(TX.nrm,[(0,(.vs (rows v1))),(1,(.int .i64 s.1)),(5,(.int .i64 s.2))],[])) g54l1_F):=by
  simp (maxSteps:=2000000) (maxDischargeDepth:=8) -implicitDefEqProofs [g54l1_cb,laws_heldInt64S_l1_b] <;> (try simp only [map_to_bind,some_elim,g54l1_F])
def laws_heldInt64S_l1 (v1:List Int) (s:Int × Int):Option ((Int) ⊕ (Int)):=loopO (fun s=>laws_heldInt64S_l1_b v1 s.1 s.2) s
@[simp] theorem g54l1_eq (y0 y1 y2):X g54_S g54l1_c [(0,(.vs (rows y0))),(1,(.int .i64 y1)),(5,(.int .i64 y2))] [] = (laws_heldInt64S_l1 y0 (y1,y2)).map g54l1_F:=by
  exact loop_X _ _ _ _ (by intro r; first | (simp; done) | (rcases r with r | r <;> simp; done) | (rcases r with r | r | r <;> simp; done) | (rcases r with r | r | r | r <;> simp)) (fun s=>g54l1_b_eq  y0 s.1 s.2) (y1,y2)
def laws_heldInt64S (a_a:List Int) (a_k:Int):Option (Int):=(laws_heldInt64S_l1 a_a ((a_k,0))).bind fun r5=>Sum.elim (fun u6=>some u6) (fun u7=>some u7) r5
@[simp] def g54_O:Int → TV × List Blk:=fun r=>((.int .i64 r),[])
def g54_E (a:List Int × Int):List TV:=[(.vs (rows a.1)),(.int .i64 a.2)]
theorem g54_run (a_a:List Int) (a_k:Int) :callFn (X g54_S) g54_tf (g54_E (a_a,a_k)) [] = (laws_heldInt64S a_a a_k).map g54_O:=by
  rw [callFn_eq]
  simp (maxSteps:=2000000) (maxDischargeDepth:=8) -implicitDefEqProofs [g54_tf,laws_heldInt64S,g54_E] <;> (try simp only [map_to_bind,some_elim,g54_O])
def g54_r:Rule:=RlO g54_E (fun a=>laws_heldInt64S a.1 a.2) g54_O
theorem g54_ok:RuleOk Tryz.prog 14 g54_r:=ok_rlo (S:=g54_S) (tf:=g54_tf) (SysOk.on trivial trivial) (trE_ok (ks:=[[0,1,5]]) Tryz.func14 (by kernel_rfl)) fun a=>g54_run a.1 a.2
@[simp] theorem g54_app (y0 y1):g54_r [(.vs (rows y0)),(.int .i64 y1)] = (laws_heldInt64S y0 y1).map g54_O :=
  RlO_app (enc:=g54_E) (by intro a b h; simp [g54_E,Prod.ext_iff] at h ⊢; simp [h]) (y0,y1)
/-! laws.FnExactHeaderBlocks -/
def g14_tf:TFn:=⟨(sq [bx 2 0,mk 4 (kb false)] [1,2] (sq [mk 5 (ki 1048576)] [1,2,5] (sq [ln 16 12 2,mo 17 5,ca 18 6 [.t 16,.t 17],mo 5 18] [1,2,5] (.seq (sq [mo 19 5,bn 20 .lss (.t 19) (ki 0)] [1,2,20] (.cond (.t 20) (.seq (.ops [mk 4 (kb true)]) (.keep (kp [(4,0)] [] 0) .ret)) .skip)) (.trim [1,2] (sq [ln 22 12 2,ca 23 8 [.t 22],mo 24 1,ca 25 7 [.t 23,.t 24],mo 21 25,oo 26 (.ext (.t 21) 0),oo 27 (.ext (.t 21) 1),mo 6 26,mo 7 27] [1,2,6,7] (sq [ln 28 12 2,ca 29 8 [.t 28],oo 8 (.alloc [.nils,.nils,(.int .i64 0),(.bool false),(.int .i64 0),(.int .i64 0),(.int .i64 0),(.int .i64 0),(.int .i64 0),(.int .i64 0),.nils,.nils]),⟨none,none,(.store 12 (.t 8) (.t 29))⟩] [1,2,6,7,8] (sq [ln 31 12 8,mo 32 1,ca 33 9 [.t 31,.t 32],mo 30 33,oo 34 (.ext (.t 30) 0),oo 35 (.ext (.t 30) 1),mo 9 34,mo 10 35] [1,2,6,7,8,9,10] (.seq (sq [mo 36 9,mo 37 6,ca 38 10 [.t 36,.t 37],nt 39 38,mo 40 39,⟨(some 41),(some (40,false)),(.mv (.t 10))⟩,⟨(some 42),(some (40,false)),(.mv (.t 7))⟩,⟨(some 43),(some (40,false)),(.bin .num .neq (.t 41) (.t 42))⟩,pk 44 (.t 40) (kb true) (.t 43)] [1,2,6,7,8,9,10,44] (.cond (.t 44) (.seq (.ops [mk 4 (kb false)]) (.keep (kp [(4,0)] [] 0) .ret)) .skip)) (.trim [1,2,6,7,8,9,10] (.seq (.seq (.draw [([],ln 45 12 8),([],ln 46 12 2),([1],ca 47 8 [.t 46])] [ca 48 11 [.t 45,.t 47],nt 49 48]) (.trim [1,2,6,7,8,9,10,49] (.cond (.t 49) (.seq (.ops [mk 4 (kb false)]) (.keep (kp [(4,0)] [] 0) .ret)) .skip))) (.trim [1,2,6,7,8,9,10] (sq [mk 11 (ki 1)] [1,2,6,7,8,9,10,11] (sq [ln 50 12 8,mo 51 11,oo 52 (.callM 12 0 [8,9,10,11] [.t 50,.t 51]),mo 11 52] [1,2,6,7,9,10,11] (.seq (sq [mo 53 11,bn 54 .lss (.t 53) (ki 0),mo 55 54,⟨(some 56),(some (55,false)),(.mv (.t 9))⟩,⟨(some 57),(some (55,false)),(.mv (.t 6))⟩,⟨(some 58),(some (55,false)),(.call 10 [.t 56,.t 57])⟩,⟨(some 59),(some (55,false)),(.un .not (.t 58))⟩,pk 60 (.t 55) (kb true) (.t 59),mo 61 60,⟨(some 62),(some (61,false)),(.mv (.t 10))⟩,⟨(some 63),(some (61,false)),(.mv (.t 7))⟩,⟨(some 64),(some (61,false)),(.bin .num .neq (.t 62) (.t 63))⟩,pk 65 (.t 61) (kb true) (.t 64)] [1,2,6,7,9,65] (.cond (.t 65) (.seq (.ops [mk 4 (kb false)]) (.keep (kp [(4,0)] [] 0) .ret)) .skip)) (.trim [1,2,6,7,9] (sq [mk 12 (ki 1)] [1,2,6,7,9,12] (sq [mo 66 9,mo 67 12,oo 68 (.callM 13 0 [13] [.t 66,.t 67]),mo 12 68] [1,2,6,7,9,12] (sq [mk 13 (ki 1)] [1,2,6,7,9,12,13] (sq [mo 69 9,mo 70 13,ca 71 14 [.t 69,.t 70],mo 13 71] [1,2,6,7,9,12,13] (.seq (sq [mo 72 13,bn 73 .lss (.t 72) (ki 0)] [1,2,6,7,9,12,13,73] (.cond (.t 73) (.seq (.ops [mk 4 (kb false)]) (.keep (kp [(4,0)] [] 0) .ret)) .skip)) (.trim [1,2,6,7,9,12,13] (.seq (sq [mo 74 13,mo 75 12,bn 76 .neq (.t 74) (.t 75)] [1,2,6,7,9,12,76] (.cond (.t 76) (.seq (.ops [mk 4 (kb false)]) (.keep (kp [(4,0)] [] 0) .ret)) .skip)) (.trim [1,2,6,7,9,12] (sq [ln 78 12 2,ca 79 8 [.t 78],mo 80 1,ca 81 9 [.t 79,.t 80],mo 77 81,oo 82 (.ext (.t 77) 0),oo 83 (.ext (.t 77) 1),mo 14 82,mo 15 83] [6,7,9,12,14,15] (.seq (sq [mo 84 14,mo 85 6,ca 86 10 [.t 84,.t 85],nt 87 86,mo 88 87,⟨(some 89),(some (88,false)),(.mv (.t 15))⟩,⟨(some 90),(some (88,false)),(.mv (.t 7))⟩,⟨(some 91),(some (88,false)),(.bin .num .neq (.t 89) (.t 90))⟩,pk 92 (.t 88) (kb true) (.t 91)] [9,12,92] (.cond (.t 92) (.seq (.ops [mk 4 (kb false)]) (.keep (kp [(4,0)] [] 0) .ret)) .skip)) (.trim [9,12] (sq [mk 13 (ki 1)] [9,12,13] (sq [mo 93 9,mo 94 13,ca 95 14 [.t 93,.t 94],mo 13 95] [12,13] (.seq (sq [mo 96 13,bn 97 .lss (.t 96) (ki 0)] [12,13,97] (.cond (.t 97) (.seq (.ops [mk 4 (kb false)]) (.keep (kp [(4,0)] [] 0) .ret)) .skip)) (.trim [12,13] (.seq (sq [mo 98 13,mo 99 12,bn 100 .neq (.t 98) (.t 99)] [100] (.cond (.t 100) (.seq (.ops [mk 4 (kb false)]) (.keep (kp [(4,0)] [] 0) .ret)) .skip)) (.trim [] (.seq (.ops [mk 4 (kb true)]) (.keep (kp [(4,0)] [] 0) .ret))))))))))))))))))))))))))))))))))),[.t 4]⟩
abbrev g14_S:=Sys.on [(6,g76_r),(8,g79_r),(7,g30_r),(9,g39_r),(10,g73_r),(11,g93_r),(14,g54_r)] [((12,0),(4,g28_r)),((13,0),(1,g26_r))]
def laws_FnExactHeaderBlocks (a_aP:K1) (a_aAt:Int):Option (Bool):=(laws_szPager a_aP 1048576).bind fun r1=>if r1 < 0 then some true else (laws_toPager a_aP).bind fun r2=>(spec_HeaderBlocks r2 a_aAt).bind fun r3=>(laws_toPager a_aP).bind fun r4=>(impl_HeaderBlocks r4 a_aAt).bind fun r5=>(laws_eqInt64S r5.1 r3.1).bind fun r6=>if ¬(r6 = true) then some false else if ¬(r5.2 = r3.2) then some false else (laws_toPager a_aP).bind fun r7=>(laws_eqPager r4 r7).bind fun r8=>if ¬(r8 = true) then some false else (laws_markPager_o71 r4.1.1 r4.1.2.1 r4.1.2.2.1 r4.1.2.2.2 r4.2.1.1 r4.2.1.2.1 r4.2.1.2.2.1 r4.2.1.2.2.2 r4.2.2.1 r4.2.2.2.1 r4.2.2.2.2.1 r4.2.2.2.2.2 1).bind fun r9=>if r9.1.length = r4.1.1.length ∧ r9.2.1.length = r4.1.2.1.length ∧ r9.2.2.1.length = r4.2.2.2.2.1.length ∧ r9.2.2.2.1.length = r4.2.2.2.2.2.length then if r9.2.2.2.2 < 0 then some false else (laws_eqInt64S r5.1 r3.1).bind fun r10=>if ¬(r10 = true) then some false else if ¬(r5.2 = r3.2) then some false else (laws_markInt64S_o5f r5.1 1).bind fun r11=>if r11.1.length = r5.1.length then (laws_heldInt64S ((fixLen r5.1 r11.1)) 1).bind fun r12=>if r12 < 0 then some false else if ¬(r12 = r11.2) then some false else (laws_toPager a_aP).bind fun r13=>(impl_HeaderBlocks r13 a_aAt).bind fun r14=>(laws_eqInt64S r14.1 r3.1).bind fun r15=>if ¬(r15 = true) then some false else if ¬(r14.2 = r3.2) then some false else (laws_heldInt64S ((fixLen r5.1 r11.1)) 1).bind fun r16=>if r16 < 0 then some false else if ¬(r16 = r11.2) then some false else some true else none else none
@[simp] def g14_O:Bool → TV × List Blk:=fun r=>((.bool r),[])
def g14_E (a:K1 × Int):List TV:=[(.agg [(.vs (rows a.1.1.1)),(.vs (rows a.1.1.2.1)),(.int .i64 a.1.1.2.2.1),(.bool a.1.1.2.2.2),(.int .i64 a.1.2.1.1),(.int .i64 a.1.2.1.2.1),(.int .i64 a.1.2.1.2.2.1),(.int .i64 a.1.2.1.2.2.2),(.int .i64 a.1.2.2.1),(.int .i64 a.1.2.2.2.1),(.vs (rows a.1.2.2.2.2.1)),(.vs (rows a.1.2.2.2.2.2))]),(.int .i64 a.2)]
theorem g14_run (a_aP:K1) (a_aAt:Int) :callFn (X g14_S) g14_tf (g14_E (a_aP,a_aAt)) [] = (laws_FnExactHeaderBlocks a_aP a_aAt).map g14_O:=by
  rw [callFn_eq]
  simp (maxSteps:=2000000) (maxDischargeDepth:=8) -implicitDefEqProofs [g14_tf,laws_FnExactHeaderBlocks,g14_E] <;> (try simp only [map_to_bind,some_elim,g14_O])
def laws_FnExactHeaderBlocks_r:Rule:=RlO g14_E (fun a=>laws_FnExactHeaderBlocks a.1 a.2) g14_O
theorem laws_FnExactHeaderBlocks_ok:RuleOk Tryz.prog 3 laws_FnExactHeaderBlocks_r:=ok_rlo (S:=g14_S) (tf:=g14_tf) (SysOk.on ⟨g76_ok,g79_ok,g30_ok,g39_ok,g73_ok,g93_ok,g54_ok,trivial⟩ ⟨g28_ok,g26_ok,trivial⟩) (trE_ok (ks:=[[3]]) Tryz.func3 (by kernel_rfl)) fun a=>g14_run a.1 a.2
@[simp] theorem laws_FnExactHeaderBlocks_app (y0 y1 y2 y3 y4 y5 y6 y7 y8 y9 y10 y11 y12):laws_FnExactHeaderBlocks_r [(.agg [(.vs (rows y0)),(.vs (rows y1)),(.int .i64 y2),(.bool y3),(.int .i64 y4),(.int .i64 y5),(.int .i64 y6),(.int .i64 y7),(.int .i64 y8),(.int .i64 y9),(.vs (rows y10)),(.vs (rows y11))]),(.int .i64 y12)] = (laws_FnExactHeaderBlocks (((y0,y1,y2,y3),(y4,y5,y6,y7),y8,y9,y10,y11)) y12).map g14_O :=
  RlO_app (enc:=g14_E) (by intro a b h; simp [g14_E,Prod.ext_iff] at h ⊢; simp [h]) (((y0,y1,y2,y3),(y4,y5,y6,y7),y8,y9,y10,y11),y12)
end
end Go.Proofs.TM
