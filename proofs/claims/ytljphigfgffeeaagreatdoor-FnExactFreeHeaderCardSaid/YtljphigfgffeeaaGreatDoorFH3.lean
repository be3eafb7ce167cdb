/- Functions of the program, as functions of their data: written by program. -/
import Derived.Test.YtljphigfgffeeaaGreatDoorFH2
namespace Go.Proofs.TM
open Go Go.Proofs
set_option linter.unusedVariables false
set_option linter.unusedSimpArgs false
set_option maxHeartbeats 1000000
attribute [-simp] Option.map_bind strV_some
attribute [simp] guardOn_bool sA_bslice Function.comp_def
noncomputable section
/-! (*impl.Pager).mark -/
def g36l1_cb:TC:=(.seq (sq [mo 18 10,mo 19 1,mo 20 2,bn 21 .add (.t 19) (.t 20),bn 22 .lss (.t 18) (.t 21)] [0,1,2,3,9,10,22] (.cond (.t 22) .skip (.keep (kp [(0,0),(9,0)] [(0,2),(1,1),(2,1),(3,1),(4,1),(5,0)] 1) (.exit 0)))) (.trim [0,1,2,3,9,10] (.seq (.block 1 (sq [mo 25 10,bn 26 .rem (.t 25) (ki 8),oo 27 (.bin .num .shl (.c (.int .u8 1)) (.t 26)),mo 11 27] [0,1,2,3,9,10,11] (sq [mo 28 3] [0,1,2,3,9,10,11,28] (.cond (.t 28) (.after (.ops [mo 29 9,mo 30 10,bn 31 .quo (.t 30) (ki 8),bn 32 .add (ki 4) (.t 31),ia 33 1 29 32,ld 34 33,mo 35 11,bn 36 .or (.t 34) (.t 35),ia 37 1 29 32,⟨none,none,(.store 1 (.t 37) (.t 36))⟩]) (kp [(0,0),(1,0),(2,0),(3,0),(9,0),(10,0)] [(0,2),(1,1),(2,1),(3,1),(4,1),(5,0)] 1)) (.after (.ops [mo 38 9,mo 39 10,bn 40 .quo (.t 39) (ki 8),bn 41 .add (ki 4) (.t 40),ia 42 1 38 41,ld 43 42,mo 44 11,bn 45 .andNot (.t 43) (.t 44),ia 46 1 38 41,⟨none,none,(.store 1 (.t 46) (.t 45))⟩]) (kp [(0,0),(1,0),(2,0),(3,0),(9,0),(10,0)] [(0,2),(1,1),(2,1),(3,1),(4,1),(5,0)] 1)))))) (.trim [0,1,2,3,9,10] (.after (.ops [mo 23 10,bn 24 .add (.t 23) (ki 1),mo 10 24]) (kp [(0,0),(1,0),(2,0),(3,0),(9,0),(10,0)] [(0,2),(1,1),(2,1),(3,1),(4,1),(5,0)] 1))))))
def g36l1_c:TC:=.loop [0,1,2,3,9,10] g36l1_cb
def g36_tf:TFn:=⟨(sq [mk 8 (ki 0)] [0,1,2,3] (sq [mo 12 0,mo 13 0,ca 14 115 [.t 13],ca 15 75 [.t 12,.t 14],oo 16 (.conv .toBytes (.t 15)),mo 9 16] [0,1,2,3,9] (.seq (sq [mo 17 1,mo 10 17] [0,1,2,3,9,10] (.block 0 (.keep (kp [(0,0),(1,0),(2,0),(3,0),(9,0),(10,0)] [(0,2),(1,1),(2,1),(3,1),(4,1),(5,0)] 1) g36l1_c))) (.trim [0,9] (.seq (.draw [([],mo 47 0),([],mo 48 0),([1],ca 49 115 [.t 48]),([],mo 50 9),([3],oo 51 (.conv .toStr (.t 50)))] [oo 52 (.callM 165 0 [0,1,2,3,4] [.t 47,.t 49,.t 51]),mo 8 52]) (.keep (kp [(8,0)] [(0,2),(6,1),(7,1),(8,1),(9,1)] 1) .ret)))))),[.t 8]⟩
abbrev g36_S:=Sys.on [(115,g67_r),(75,g81_r)] [((165,0),(1,g37_r))]
@[reducible,simp] def g36l1_F:(K1 × List Bt) → Out:=(fun t=>(.ext 0,[(0,(.ptr 0 0 0)),(9,(.hs 5 0 t.2.length false))],[(.live 12 [[(ow 1 t.1.1.1.length),(ow 2 t.1.1.2.1.length),(.int .i64 t.1.1.2.2.1),(.bool t.1.1.2.2.2),(.int .i64 t.1.2.1.1),(.int .i64 t.1.2.1.2.1),(.int .i64 t.1.2.1.2.2.1),(.int .i64 t.1.2.1.2.2.2),(.int .i64 t.1.2.2.1),(.int .i64 t.1.2.2.2.1),(ow 3 t.1.2.2.2.2.1.length),(ow 4 t.1.2.2.2.2.2.length)]]),(ob 1 t.1.1.1),(ob 2 t.1.1.2.1),(ob 2 t.1.2.2.2.2.1),(ob 2 t.1.2.2.2.2.2),(.live 1 (rows t.2))]))
def impl_Pager_mark_o8d_l1_b (v4:K1) (v5:Int) (v6:Int) (v7:Bool) (v8:List Bt) (v9:Int):Option ((List Bt × Int) ⊕ (K1 × List Bt)):=if v9 < (IntKind.i64.wrap (v5 + v6)) then if (Int.tmod v9 8) < 0 then none else if v7 = true then if 0 ≤ (IntKind.i64.wrap (4 + (IntKind.i64.wrap (Int.tdiv v9 8)))) ∧ (IntKind.i64.wrap (4 + (IntKind.i64.wrap (Int.tdiv v9 8)))) < ((v8.length:Nat):Int) then (v8[((IntKind.i64.wrap (4 + (IntKind.i64.wrap (Int.tdiv v9 8))))).toNat]?).bind fun x10=>if 0 ≤ (IntKind.i64.wrap (4 + (IntKind.i64.wrap (Int.tdiv v9 8)))) ∧ (IntKind.i64.wrap (4 + (IntKind.i64.wrap (Int.tdiv v9 8)))) < ((v8.length:Nat):Int) then (v8[((IntKind.i64.wrap (4 + (IntKind.i64.wrap (Int.tdiv v9 8))))).toNat]?).bind fun x11=>some (.inl ((v8.set ((IntKind.i64.wrap (4 + (IntKind.i64.wrap (Int.tdiv v9 8))))).toNat (⟨UInt8.ofNat ((bitV .or .u8 ((x10.v.toNat:Int)) ((shlV .u8 1 ((Int.tmod v9 8)))))).toNat⟩:Bt)),(IntKind.i64.wrap (v9 + 1)))) else none else none else if 0 ≤ (IntKind.i64.wrap (4 + (IntKind.i64.wrap (Int.tdiv v9 8)))) ∧ (IntKind.i64.wrap (4 + (IntKind.i64.wrap (Int.tdiv v9 8)))) < ((v8.length:Nat):Int) then (v8[((IntKind.i64.wrap (4 + (IntKind.i64.wrap (Int.tdiv v9 8))))).toNat]?).bind fun x12=>if 0 ≤ (IntKind.i64.wrap (4 + (IntKind.i64.wrap (Int.tdiv v9 8)))) ∧ (IntKind.i64.wrap (4 + (IntKind.i64.wrap (Int.tdiv v9 8)))) < ((v8.length:Nat):Int) then (v8[((IntKind.i64.wrap (4 + (IntKind.i64.wrap (Int.tdiv v9 8))))).toNat]?).bind fun x13=>some (.inl ((v8.set ((IntKind.i64.wrap (4 + (IntKind.i64.wrap (Int.tdiv v9 8))))).toNat (⟨UInt8.ofNat ((bitV .andNot .u8 ((x12.v.toNat:Int)) ((shlV .u8 1 ((Int.tmod v9 8)))))).toNat⟩:Bt)),(IntKind.i64.wrap (v9 + 1)))) else none else none else some (.inr (v4,v8))
theorem g36l1_b_eq  (v4:K1) (v5:Int) (v6:Int) (v7:Bool) (v8:List Bt) (v9:Int):X g36_S g36l1_cb (keepEnv [0,1,2,3,9,10] [(0,(.ptr 0 0 0)),(1,(.int .i64 v5)),(2,(.int .i64 v6)),(3,(.bool v7)),(9,(.hs 5 0 v8.length false)),(10,(.int .i64 v9))]) [(.live 12 [[(ow 1 v4.1.1.length),(ow 2 v4.1.2.1.length),(.int .i64 v4.1.2.2.1),(.bool v4.1.2.2.2),(.int .i64 v4.2.1.1),(.int .i64 v4.2.1.2.1),(.int .i64 v4.2.1.2.2.1),(.int .i64 v4.2.1.2.2.2),(.int .i64 v4.2.2.1),(.int .i64 v4.2.2.2.1),(ow 3 v4.2.2.2.2.1.length),(ow 4 v4.2.2.2.2.2.length)]]),(ob 1 v4.1.1),(ob 2 v4.1.2.1),(ob 2 v4.2.2.2.2.1),(ob 2 v4.2.2.2.2.2),(.live 1 (rows v8))] = (impl_Pager_mark_o8d_l1_b v4 v5 v6 v7 v8 v9).map (Sum.elim (fun s=>(TX.nrm,[(0,(.ptr 0 0 0)),(1,(.int .i64 v5)),(2,(.int .i64 v6)),(3,(.bool v7)),(9,(.hs 5 0 s.1.length false)),(10,(.int .i64 s.2))],[(.live 12 [[(ow 1 v4.1.1.length),(ow 2 v4.1.2.1.length),(.int .i64 v4.1.2.2.1),(.bool v4.1.2.2.2),(.int .i64 v4.2.1.1),(.int .i64 v4.2.1.2.1),(.int .i64 v4.2.1.2.2.1),(.int .i64 v4.2.1.2.2.2),(.int .i64 v4.2.2.1),(.int .i64 v4.2.2.2.1),(ow 3 v4.2.2.2.2.1.length),(ow 4 v4.2.2.2.2.2.length)]]),(ob 1 v4.1.1),(ob 2 v4.1.2.1),(ob 2 v4.2.2.2.2.1),(ob 2 v4.2.2.2.2.2),(.live 1 (rows s.1))])) g36l1_F):=by
  simp (maxSteps:=2000000) (maxDischargeDepth:=8) -implicitDefEqProofs [g36l1_cb,impl_Pager_mark_o8d_l1_b] <;> (try simp only [map_to_bind,some_elim,g36l1_F])
def impl_Pager_mark_o8d_l1 (v4:K1) (v5:Int) (v6:Int) (v7:Bool) (s:List Bt × Int):Option (K1 × List Bt):=loopO (fun s=>impl_Pager_mark_o8d_l1_b v4 v5 v6 v7 s.1 s.2) s
@[simp] theorem g36l1_eq (y0 y1 y2 y3 y4 y5 y6 y7 y8 y9 y10 y11 y12 y13 y14)(y15:List Bt)(y16){n1:Nat}(h1:n1 = y15.length):X g36_S g36l1_c [(0,(.ptr 0 0 0)),(1,(.int .i64 y12)),(2,(.int .i64 y13)),(3,(.bool y14)),(9,(.hs 5 0 n1 false)),(10,(.int .i64 y16))] [(.live 12 [[(ow 1 y0.length),(ow 2 y1.length),(.int .i64 y2),(.bool y3),(.int .i64 y4),(.int .i64 y5),(.int .i64 y6),(.int .i64 y7),(.int .i64 y8),(.int .i64 y9),(ow 3 y10.length),(ow 4 y11.length)]]),(ob 1 y0),(ob 2 y1),(ob 2 y10),(ob 2 y11),(.live 1 (rows y15))] = (impl_Pager_mark_o8d_l1 (((y0,y1,y2,y3),(y4,y5,y6,y7),y8,y9,y10,y11)) y12 y13 y14 (y15,y16)).map g36l1_F:=by
  subst h1
  exact loop_X _ _ _ _ (by intro r; first | (simp; done) | (rcases r with r | r <;> simp; done) | (rcases r with r | r | r <;> simp; done) | (rcases r with r | r | r | r <;> simp)) (fun s=>g36l1_b_eq  (((y0,y1,y2,y3),(y4,y5,y6,y7),y8,y9,y10,y11)) y12 y13 y14 s.1 s.2) (y15,y16)
def impl_Pager_mark_o8d (a1:K1) (a2:Int) (a3:Int) (a4:Bool):Option (K1 × Int):=(impl_Pager_area a1).bind fun r1=>(impl_Pager_get a1 r1).bind fun r2=>(bytL r2).bind fun l3=>(impl_Pager_mark_o8d_l1 a1 a2 a3 a4 ((l3,a2))).bind fun r14=>(impl_Pager_area r14.1).bind fun r15=>(impl_Pager_set_oc8 r14.1 r15 ((r14.2.map Bt.v))).bind fun r16=>some (r16.1,r16.2)
@[simp] def g36_O:(K1 × Int) → TV × List Blk:=fun r=>((.int .i64 r.2),[(.live 12 [[(ow 1 r.1.1.1.length),(ow 2 r.1.1.2.1.length),(.int .i64 r.1.1.2.2.1),(.bool r.1.1.2.2.2),(.int .i64 r.1.2.1.1),(.int .i64 r.1.2.1.2.1),(.int .i64 r.1.2.1.2.2.1),(.int .i64 r.1.2.1.2.2.2),(.int .i64 r.1.2.2.1),(.int .i64 r.1.2.2.2.1),(ow 3 r.1.2.2.2.2.1.length),(ow 4 r.1.2.2.2.2.2.length)]]),(ob 1 r.1.1.1),(ob 2 r.1.1.2.1),(ob 2 r.1.2.2.2.2.1),(ob 2 r.1.2.2.2.2.2)])
abbrev g36_T:=K1 × Int × Int × Bool
def g36_E (a:g36_T):List TV:=[(.ptr 0 0 0),(.int .i64 a.2.1),(.int .i64 a.2.2.1),(.bool a.2.2.2)]
def g36_B (a:g36_T):List Blk:=[(.live 12 [[(ow 1 a.1.1.1.length),(ow 2 a.1.1.2.1.length),(.int .i64 a.1.1.2.2.1),(.bool a.1.1.2.2.2),(.int .i64 a.1.2.1.1),(.int .i64 a.1.2.1.2.1),(.int .i64 a.1.2.1.2.2.1),(.int .i64 a.1.2.1.2.2.2),(.int .i64 a.1.2.2.1),(.int .i64 a.1.2.2.2.1),(ow 3 a.1.2.2.2.2.1.length),(ow 4 a.1.2.2.2.2.2.length)]]),(ob 1 a.1.1.1),(ob 2 a.1.1.2.1),(ob 2 a.1.2.2.2.2.1),(ob 2 a.1.2.2.2.2.2)]
theorem g36_run (a1:K1) (a2:Int) (a3:Int) (a4:Bool) :callFn (X g36_S) g36_tf (g36_E (a1,a2,a3,a4)) (g36_B (a1,a2,a3,a4)) = (impl_Pager_mark_o8d a1 a2 a3 a4).map g36_O:=by
  rw [callFn_eq]
  simp (maxSteps:=2000000) (maxDischargeDepth:=8) -implicitDefEqProofs [g36_tf,impl_Pager_mark_o8d,g36_E,g36_B] <;> (try simp only [map_to_bind,some_elim,g36_O])
def g36_r:MRule:=RmO g36_E g36_B (fun a=>impl_Pager_mark_o8d a.1 a.2.1 a.2.2.1 a.2.2.2) g36_O
theorem g36_ok:MRuleOk Tryz.prog 154 1 g36_r:=ok_rmo (S:=g36_S) (tf:=g36_tf) (SysOk.on ⟨g67_ok,g81_ok,trivial⟩ ⟨g37_ok,trivial⟩) (trE_ok (ks:=[[0,1,2,3,9,10],[5]]) Tryz.func154 (by kernel_rfl)) (by rfl) (fun _=>by simp [g36_B]) (fun _=>by simp) fun a=>g36_run a.1 a.2.1 a.2.2.1 a.2.2.2
@[simp] theorem g36_app (y0:List Str)(y1:List (Int × Str))(y2 y3 y4 y5 y6 y7 y8 y9)(y10:List (Int × Str))(y11:List (Int × Str))(y12 y13 y14){n1:Nat}(h1:n1 = y0.length){n2:Nat}(h2:n2 = y1.length){n3:Nat}(h3:n3 = y10.length){n4:Nat}(h4:n4 = y11.length):g36_r [(.ptr 0 0 0),(.int .i64 y12),(.int .i64 y13),(.bool y14)] [(.live 12 [[(ow 1 n1),(ow 2 n2),(.int .i64 y2),(.bool y3),(.int .i64 y4),(.int .i64 y5),(.int .i64 y6),(.int .i64 y7),(.int .i64 y8),(.int .i64 y9),(ow 3 n3),(ow 4 n4)]]),(ob 1 y0),(ob 2 y1),(ob 2 y10),(ob 2 y11)] = (impl_Pager_mark_o8d (((y0,y1,y2,y3),(y4,y5,y6,y7),y8,y9,y10,y11)) y12 y13 y14).map g36_O:=by
  subst h1 h2 h3 h4
  exact RmO_app (enc:=g36_E) (encB:=g36_B) (by intro a b h h2; simp [g36_E,g36_B,Prod.ext_iff] at h h2 ⊢; simp [h,h2]) (((y0,y1,y2,y3),(y4,y5,y6,y7),y8,y9,y10,y11),y12,y13,y14)
/-! (*impl.Pager).release -/
def g24l1_cb:TC:=(.seq (sq [mo 14 7,mo 15 1,mo 16 2,bn 17 .add (.t 15) (.t 16),bn 18 .lss (.t 14) (.t 17)] [0,1,2,7,18] (.cond (.t 18) .skip (.keep (kp [(0,0),(1,0),(2,0)] [(0,2),(1,1),(2,1),(3,1),(4,1)] 1) (.exit 0)))) (.trim [0,1,2,7] (.seq (.block 1 (sq [mo 21 0,mo 22 7,ca 23 72 [.t 21,.t 22],nt 24 23] [0,1,2,7,24] (.cond (.t 24) (.seq (.ops [mk 6 (ki 6)]) (.keep (kp [(6,0)] [(0,2),(1,1),(2,1),(3,1),(4,1)] 1) .ret)) .skip))) (.trim [0,1,2,7] (.after (.ops [mo 19 7,bn 20 .add (.t 19) (ki 1),mo 7 20]) (kp [(0,0),(1,0),(2,0),(7,0)] [(0,2),(1,1),(2,1),(3,1),(4,1)] 1))))))
def g24l1_c:TC:=.loop [0,1,2,7] g24l1_cb
def g24_tf:TFn:=⟨(sq [mk 6 (ki 0)] [0,1,2] (.seq (sq [mo 8 0,mo 9 1,mo 10 2,ca 11 114 [.t 8,.t 9,.t 10],nt 12 11] [0,1,2,12] (.cond (.t 12) (.seq (.ops [mk 6 (ki 2)]) (.keep (kp [(6,0)] [(0,2),(1,1),(2,1),(3,1),(4,1)] 1) .ret)) .skip)) (.trim [0,1,2] (.seq (sq [mo 13 1,mo 7 13] [0,1,2,7] (.block 0 (.keep (kp [(0,0),(1,0),(2,0),(7,0)] [(0,2),(1,1),(2,1),(3,1),(4,1)] 1) g24l1_c))) (.trim [0,1,2] (.seq (.ops [mo 25 0,mo 26 1,mo 27 2,oo 28 (.callM 154 0 [0,1,2,3,4] [.t 25,.t 26,.t 27,kb false]),mo 6 28]) (.keep (kp [(6,0)] [(0,2),(5,1),(6,1),(7,1),(8,1)] 1) .ret))))))),[.t 6]⟩
abbrev g24_S:=Sys.on [(114,g45_r),(72,g32_r)] [((154,0),(1,g36_r))]
@[reducible,simp] def g24l1_F:((K1 × Int × Int) ⊕ (K1 × Int)) → Out:=(Sum.elim (fun t=>(.ext 0,[(0,(.ptr 0 0 0)),(1,(.int .i64 t.2.1)),(2,(.int .i64 t.2.2))],[(.live 12 [[(ow 1 t.1.1.1.length),(ow 2 t.1.1.2.1.length),(.int .i64 t.1.1.2.2.1),(.bool t.1.1.2.2.2),(.int .i64 t.1.2.1.1),(.int .i64 t.1.2.1.2.1),(.int .i64 t.1.2.1.2.2.1),(.int .i64 t.1.2.1.2.2.2),(.int .i64 t.1.2.2.1),(.int .i64 t.1.2.2.2.1),(ow 3 t.1.2.2.2.2.1.length),(ow 4 t.1.2.2.2.2.2.length)]]),(ob 1 t.1.1.1),(ob 2 t.1.1.2.1),(ob 2 t.1.2.2.2.2.1),(ob 2 t.1.2.2.2.2.2)])) (fun t=>(.ret,[(6,(.int .i64 t.2))],[(.live 12 [[(ow 1 t.1.1.1.length),(ow 2 t.1.1.2.1.length),(.int .i64 t.1.1.2.2.1),(.bool t.1.1.2.2.2),(.int .i64 t.1.2.1.1),(.int .i64 t.1.2.1.2.1),(.int .i64 t.1.2.1.2.2.1),(.int .i64 t.1.2.1.2.2.2),(.int .i64 t.1.2.2.1),(.int .i64 t.1.2.2.2.1),(ow 3 t.1.2.2.2.2.1.length),(ow 4 t.1.2.2.2.2.2.length)]]),(ob 1 t.1.1.1),(ob 2 t.1.1.2.1),(ob 2 t.1.2.2.2.2.1),(ob 2 t.1.2.2.2.2.2)])))
def impl_Pager_release_oe8_l1_b (v2:K1) (v3:Int) (v4:Int) (v5:Int):Option ((Int) ⊕ ((K1 × Int × Int) ⊕ (K1 × Int))):=if v5 < (IntKind.i64.wrap (v3 + v4)) then (impl_Pager_allocated v2 v5).bind fun r6=>if ¬(r6 = true) then some (.inr (.inr (v2,6))) else some (.inl ((IntKind.i64.wrap (v5 + 1)))) else some (.inr (.inl (v2,v3,v4)))
theorem g24l1_b_eq  (v2:K1) (v3:Int) (v4:Int) (v5:Int):X g24_S g24l1_cb (keepEnv [0,1,2,7] [(0,(.ptr 0 0 0)),(1,(.int .i64 v3)),(2,(.int .i64 v4)),(7,(.int .i64 v5))]) [(.live 12 [[(ow 1 v2.1.1.length),(ow 2 v2.1.2.1.length),(.int .i64 v2.1.2.2.1),(.bool v2.1.2.2.2),(.int .i64 v2.2.1.1),(.int .i64 v2.2.1.2.1),(.int .i64 v2.2.1.2.2.1),(.int .i64 v2.2.1.2.2.2),(.int .i64 v2.2.2.1),(.int .i64 v2.2.2.2.1),(ow 3 v2.2.2.2.2.1.length),(ow 4 v2.2.2.2.2.2.length)]]),(ob 1 v2.1.1),(ob 2 v2.1.2.1),(ob 2 v2.2.2.2.2.1),(ob 2 v2.2.2.2.2.2)] = (impl_Pager_release_oe8_l1_b v2 v3 v4 v5).map (Sum.elim (fun s=>(TX.nrm,[(0,(.ptr 0 0 0)),(1,(.int .i64 v3)),(2,(.int .i64 v4)),(7,(.int .i64 s))],[(.live 12 [[(ow 1 v2.1.1.length),(ow 2 v2.1.2.1.length),(.int .i64 v2.1.2.2.1),(.bool v2.1.2.2.2),(.int .i64 v2.2.1.1),(.int .i64 v2.2.1.2.1),(.int .i64 v2.2.1.2.2.1),(.int .i64 v2.2.1.2.2.2),(.int .i64 v2.2.2.1),(.int .i64 v2.2.2.2.1),(ow 3 v2.2.2.2.2.1.length),(ow 4 v2.2.2.2.2.2.length)]]),(ob 1 v2.1.1),(ob 2 v2.1.2.1),(ob 2 v2.2.2.2.2.1),(ob 2 v2.2.2.2.2.2)])) g24l1_F):=by
  simp (maxSteps:=2000000) (maxDischargeDepth:=8) -implicitDefEqProofs [g24l1_cb,impl_Pager_release_oe8_l1_b] <;> (try simp only [map_to_bind,some_elim,g24l1_F])
def impl_Pager_release_oe8_l1 (v2:K1) (v3:Int) (v4:Int) (s:Int):Option ((K1 × Int × Int) ⊕ (K1 × Int)):=loopO (fun s=>impl_Pager_release_oe8_l1_b v2 v3 v4 s) s
@[simp] theorem g24l1_eq (y0 y1 y2 y3 y4 y5 y6 y7 y8 y9 y10 y11 y12 y13 y14):X g24_S g24l1_c [(0,(.ptr 0 0 0)),(1,(.int .i64 y12)),(2,(.int .i64 y13)),(7,(.int .i64 y14))] [(.live 12 [[(ow 1 y0.length),(ow 2 y1.length),(.int .i64 y2),(.bool y3),(.int .i64 y4),(.int .i64 y5),(.int .i64 y6),(.int .i64 y7),(.int .i64 y8),(.int .i64 y9),(ow 3 y10.length),(ow 4 y11.length)]]),(ob 1 y0),(ob 2 y1),(ob 2 y10),(ob 2 y11)] = (impl_Pager_release_oe8_l1 (((y0,y1,y2,y3),(y4,y5,y6,y7),y8,y9,y10,y11)) y12 y13 y14).map g24l1_F:=by
  exact loop_X _ _ _ _ (by intro r; first | (simp; done) | (rcases r with r | r <;> simp; done) | (rcases r with r | r | r <;> simp; done) | (rcases r with r | r | r | r <;> simp)) (fun s=>g24l1_b_eq  (((y0,y1,y2,y3),(y4,y5,y6,y7),y8,y9,y10,y11)) y12 y13 s) y14
def impl_Pager_release_oe8 (a1:K1) (a2:Int) (a3:Int):Option (K1 × Int):=(impl_Pager_isData a1 a2 a3).bind fun r1=>if ¬(r1 = true) then some (a1,2) else (impl_Pager_release_oe8_l1 a1 a2 a3 a2).bind fun r7=>Sum.elim (fun u8=>(impl_Pager_mark_o8d u8.1 u8.2.1 u8.2.2 false).bind fun r10=>some (r10.1,r10.2)) (fun u9=>some (u9.1,u9.2)) r7
@[simp] def g24_O:(K1 × Int) → TV × List Blk:=fun r=>((.int .i64 r.2),[(.live 12 [[(ow 1 r.1.1.1.length),(ow 2 r.1.1.2.1.length),(.int .i64 r.1.1.2.2.1),(.bool r.1.1.2.2.2),(.int .i64 r.1.2.1.1),(.int .i64 r.1.2.1.2.1),(.int .i64 r.1.2.1.2.2.1),(.int .i64 r.1.2.1.2.2.2),(.int .i64 r.1.2.2.1),(.int .i64 r.1.2.2.2.1),(ow 3 r.1.2.2.2.2.1.length),(ow 4 r.1.2.2.2.2.2.length)]]),(ob 1 r.1.1.1),(ob 2 r.1.1.2.1),(ob 2 r.1.2.2.2.2.1),(ob 2 r.1.2.2.2.2.2)])
abbrev g24_T:=K1 × Int × Int
def g24_E (a:g24_T):List TV:=[(.ptr 0 0 0),(.int .i64 a.2.1),(.int .i64 a.2.2)]
def g24_B (a:g24_T):List Blk:=[(.live 12 [[(ow 1 a.1.1.1.length),(ow 2 a.1.1.2.1.length),(.int .i64 a.1.1.2.2.1),(.bool a.1.1.2.2.2),(.int .i64 a.1.2.1.1),(.int .i64 a.1.2.1.2.1),(.int .i64 a.1.2.1.2.2.1),(.int .i64 a.1.2.1.2.2.2),(.int .i64 a.1.2.2.1),(.int .i64 a.1.2.2.2.1),(ow 3 a.1.2.2.2.2.1.length),(ow 4 a.1.2.2.2.2.2.length)]]),(ob 1 a.1.1.1),(ob 2 a.1.1.2.1),(ob 2 a.1.2.2.2.2.1),(ob 2 a.1.2.2.2.2.2)]
theorem g24_run (a1:K1) (a2:Int) (a3:Int) :callFn (X g24_S) g24_tf (g24_E (a1,a2,a3)) (g24_B (a1,a2,a3)) = (impl_Pager_release_oe8 a1 a2 a3).map g24_O:=by
  rw [callFn_eq]
  simp (maxSteps:=2000000) (maxDischargeDepth:=8) -implicitDefEqProofs [g24_tf,impl_Pager_release_oe8,g24_E,g24_B] <;> (try simp only [map_to_bind,some_elim,g24_O])
def g24_r:MRule:=RmO g24_E g24_B (fun a=>impl_Pager_release_oe8 a.1 a.2.1 a.2.2) g24_O
theorem g24_ok:MRuleOk Tryz.prog 130 1 g24_r:=ok_rmo (S:=g24_S) (tf:=g24_tf) (SysOk.on ⟨g45_ok,g32_ok,trivial⟩ ⟨g36_ok,trivial⟩) (trE_ok (ks:=[[0,1,2,7]]) Tryz.func130 (by kernel_rfl)) (by rfl) (fun _=>by simp [g24_B]) (fun _=>by simp) fun a=>g24_run a.1 a.2.1 a.2.2
@[simp] theorem g24_app (y0:List Str)(y1:List (Int × Str))(y2 y3 y4 y5 y6 y7 y8 y9)(y10:List (Int × Str))(y11:List (Int × Str))(y12 y13){n1:Nat}(h1:n1 = y0.length){n2:Nat}(h2:n2 = y1.length){n3:Nat}(h3:n3 = y10.length){n4:Nat}(h4:n4 = y11.length):g24_r [(.ptr 0 0 0),(.int .i64 y12),(.int .i64 y13)] [(.live 12 [[(ow 1 n1),(ow 2 n2),(.int .i64 y2),(.bool y3),(.int .i64 y4),(.int .i64 y5),(.int .i64 y6),(.int .i64 y7),(.int .i64 y8),(.int .i64 y9),(ow 3 n3),(ow 4 n4)]]),(ob 1 y0),(ob 2 y1),(ob 2 y10),(ob 2 y11)] = (impl_Pager_release_oe8 (((y0,y1,y2,y3),(y4,y5,y6,y7),y8,y9,y10,y11)) y12 y13).map g24_O:=by
  subst h1 h2 h3 h4
  exact RmO_app (enc:=g24_E) (encB:=g24_B) (by intro a b h h2; simp [g24_E,g24_B,Prod.ext_iff] at h h2 ⊢; simp [h,h2]) (((y0,y1,y2,y3),(y4,y5,y6,y7),y8,y9,y10,y11),y12,y13)
/-! (*impl.Pager).releaseAll -/
def g19l1_cb:TC:=(sq [bn 11 .lss (.t 10) (.t 9)] [0,8,9,10,11] (.seq (.cond (.t 11) .skip (.keep (kp [] [(0,2),(1,1),(2,1),(3,1),(4,1),(5,1)] 2) (.exit 0))) (.trim [0,8,9,10] (.seq (.block 1 (sq [ia 12 1 8 10,ld 13 12,mo 6 13] [0,6,8,9,10] (sq [mo 14 0,mo 15 6,oo 16 (.callM 130 0 [0,2,3,4,5] [.t 14,.t 15,ki 1]),mo 7 16] [0,7,8,9,10] (sq [mo 17 7,bn 18 .neq (.t 17) (ki 0)] [0,7,8,9,10,18] (.cond (.t 18) (.seq (.ops [mo 19 7,mo 4 19]) (.keep (kp [(4,0)] [(0,2),(1,1),(6,1),(7,1),(8,1),(9,1)] 2) .ret)) .skip))))) (.trim [0,8,9,10] (.after (.ops [bn 20 .add (.t 10) (ki 1),mo 10 20]) (kp [(0,0),(8,0),(9,0),(10,0)] [(0,2),(1,1),(6,1),(7,1),(8,1),(9,1)] 2)))))))
def g19l1_c:TC:=.loop [0,8,9,10] g19l1_cb
def g19_tf:TFn:=⟨(sq [mk 4 (ki 0)] [0,1] (.seq (sq [mo 8 1,le 9 8,mk 10 (ki 0)] [0,8,9,10] (.block 0 (.keep (kp [(0,0),(8,0),(9,0),(10,0)] [(0,2),(1,1),(2,1),(3,1),(4,1),(5,1)] 2) g19l1_c))) (.trim [] (.seq (.ops [mk 4 (ki 0)]) (.keep (kp [(4,0)] [(0,2),(1,1),(2,1),(3,1),(4,1),(5,1)] 2) .ret))))),[.t 4]⟩
abbrev g19_S:=Sys.on [] [((130,0),(1,g24_r))]
@[reducible,simp] def g19l1_F:((K1 × List Int) ⊕ (K1 × List Int × Int)) → Out:=(Sum.elim (fun t=>(.ext 0,[],[(.live 12 [[(ow 2 t.1.1.1.length),(ow 3 t.1.1.2.1.length),(.int .i64 t.1.1.2.2.1),(.bool t.1.1.2.2.2),(.int .i64 t.1.2.1.1),(.int .i64 t.1.2.1.2.1),(.int .i64 t.1.2.1.2.2.1),(.int .i64 t.1.2.1.2.2.2),(.int .i64 t.1.2.2.1),(.int .i64 t.1.2.2.2.1),(ow 4 t.1.2.2.2.2.1.length),(ow 5 t.1.2.2.2.2.2.length)]]),(ob 1 t.2),(ob 1 t.1.1.1),(ob 2 t.1.1.2.1),(ob 2 t.1.2.2.2.2.1),(ob 2 t.1.2.2.2.2.2)])) (fun t=>(.ret,[(4,(.int .i64 t.2.2))],[(.live 12 [[(ow 2 t.1.1.1.length),(ow 3 t.1.1.2.1.length),(.int .i64 t.1.1.2.2.1),(.bool t.1.1.2.2.2),(.int .i64 t.1.2.1.1),(.int .i64 t.1.2.1.2.1),(.int .i64 t.1.2.1.2.2.1),(.int .i64 t.1.2.1.2.2.2),(.int .i64 t.1.2.2.1),(.int .i64 t.1.2.2.2.1),(ow 4 t.1.2.2.2.2.1.length),(ow 5 t.1.2.2.2.2.2.length)]]),(ob 1 t.2.1),(ob 1 t.1.1.1),(ob 2 t.1.1.2.1),(ob 2 t.1.2.2.2.2.1),(ob 2 t.1.2.2.2.2.2)])))
def impl_Pager_releaseAll_occ_l1_b (v2:List Int) (v3:Int) (v1:K1) (v4:Int):Option ((K1 × Int) ⊕ ((K1 × List Int) ⊕ (K1 × List Int × Int))):=if v4 < v3 then if 0 ≤ v4 ∧ v4 < ((v2.length:Nat):Int) then (v2[(v4).toNat]?).bind fun x5=>(impl_Pager_release_oe8 v1 x5 1).bind fun r6=>if ¬(r6.2 = 0) then some (.inr (.inr (r6.1,v2,r6.2))) else some (.inl (r6.1,(IntKind.i64.wrap (v4 + 1)))) else none else some (.inr (.inl (v1,v2)))
theorem g19l1_b_eq  (v2:List Int) (v3:Int) (v1:K1) (v4:Int):X g19_S g19l1_cb (keepEnv [0,8,9,10] [(0,(.ptr 0 0 0)),(8,(ow 1 v2.length)),(9,(.int .i64 v3)),(10,(.int .i64 v4))]) [(.live 12 [[(ow 2 v1.1.1.length),(ow 3 v1.1.2.1.length),(.int .i64 v1.1.2.2.1),(.bool v1.1.2.2.2),(.int .i64 v1.2.1.1),(.int .i64 v1.2.1.2.1),(.int .i64 v1.2.1.2.2.1),(.int .i64 v1.2.1.2.2.2),(.int .i64 v1.2.2.1),(.int .i64 v1.2.2.2.1),(ow 4 v1.2.2.2.2.1.length),(ow 5 v1.2.2.2.2.2.length)]]),(ob 1 v2),(ob 1 v1.1.1),(ob 2 v1.1.2.1),(ob 2 v1.2.2.2.2.1),(ob 2 v1.2.2.2.2.2)] = (impl_Pager_releaseAll_occ_l1_b v2 v3 v1 v4).map (Sum.elim (fun s=>(TX.nrm,[(0,(.ptr 0 0 0)),(8,(ow 1 v2.length)),(9,(.int .i64 v3)),(10,(.int .i64 s.2))],[(.live 12 [[(ow 2 s.1.1.1.length),(ow 3 s.1.1.2.1.length),(.int .i64 s.1.1.2.2.1),(.bool s.1.1.2.2.2),(.int .i64 s.1.2.1.1),(.int .i64 s.1.2.1.2.1),(.int .i64 s.1.2.1.2.2.1),(.int .i64 s.1.2.1.2.2.2),(.int .i64 s.1.2.2.1),(.int .i64 s.1.2.2.2.1),(ow 4 s.1.2.2.2.2.1.length),(ow 5 s.1.2.2.2.2.2.length)]]),(ob 1 v2),(ob 1 s.1.1.1),(ob 2 s.1.1.2.1),(ob 2 s.1.2.2.2.2.1),(ob 2 s.1.2.2.2.2.2)])) g19l1_F):=by
  simp (maxSteps:=2000000) (maxDischargeDepth:=8) -implicitDefEqProofs [g19l1_cb,impl_Pager_releaseAll_occ_l1_b] <;> (try simp only [map_to_bind,some_elim,g19l1_F])
def impl_Pager_releaseAll_occ_l1 (v2:List Int) (v3:Int) (s:K1 × Int):Option ((K1 × List Int) ⊕ (K1 × List Int × Int)):=loopO (fun s=>impl_Pager_releaseAll_occ_l1_b v2 v3 s.1 s.2) s
@[simp] theorem g19l1_eq (y0 y1 y2 y3 y4 y5 y6 y7 y8 y9 y10 y11)(y12:List Int)(y13 y14){n1:Nat}(h1:n1 = y12.length):X g19_S g19l1_c [(0,(.ptr 0 0 0)),(8,(ow 1 n1)),(9,(.int .i64 y13)),(10,(.int .i64 y14))] [(.live 12 [[(ow 2 y0.length),(ow 3 y1.length),(.int .i64 y2),(.bool y3),(.int .i64 y4),(.int .i64 y5),(.int .i64 y6),(.int .i64 y7),(.int .i64 y8),(.int .i64 y9),(ow 4 y10.length),(ow 5 y11.length)]]),(ob 1 y12),(ob 1 y0),(ob 2 y1),(ob 2 y10),(ob 2 y11)] = (impl_Pager_releaseAll_occ_l1 y12 y13 (((y0,y1,y2,y3),(y4,y5,y6,y7),y8,y9,y10,y11),y14)).map g19l1_F:=by
  subst h1
  exact loop_X _ _ _ _ (by intro r; first | (simp; done) | (rcases r with r | r <;> simp; done) | (rcases r with r | r | r <;> simp; done) | (rcases r with r | r | r | r <;> simp)) (fun s=>g19l1_b_eq  y12 y13 s.1 s.2) (((y0,y1,y2,y3),(y4,y5,y6,y7),y8,y9,y10,y11),y14)
def impl_Pager_releaseAll_occ (a1:K1) (a2:List Int):Option (K1 × List Int × Int):=(impl_Pager_releaseAll_occ_l1 a2 (((a2.length:Nat):Int)) ((a1,0))).bind fun r7=>Sum.elim (fun u8=>some (u8.1,u8.2,0)) (fun u9=>some (u9.1,u9.2.1,u9.2.2)) r7
@[simp] def g19_O:(K1 × List Int × Int) → TV × List Blk:=fun r=>((.int .i64 r.2.2),[(.live 12 [[(ow 2 r.1.1.1.length),(ow 3 r.1.1.2.1.length),(.int .i64 r.1.1.2.2.1),(.bool r.1.1.2.2.2),(.int .i64 r.1.2.1.1),(.int .i64 r.1.2.1.2.1),(.int .i64 r.1.2.1.2.2.1),(.int .i64 r.1.2.1.2.2.2),(.int .i64 r.1.2.2.1),(.int .i64 r.1.2.2.2.1),(ow 4 r.1.2.2.2.2.1.length),(ow 5 r.1.2.2.2.2.2.length)]]),(ob 1 r.2.1),(ob 1 r.1.1.1),(ob 2 r.1.1.2.1),(ob 2 r.1.2.2.2.2.1),(ob 2 r.1.2.2.2.2.2)])
abbrev g19_T:=K1 × List Int
def g19_E (a:g19_T):List TV:=[(.ptr 0 0 0),(ow 1 a.2.length)]
def g19_B (a:g19_T):List Blk:=[(.live 12 [[(ow 2 a.1.1.1.length),(ow 3 a.1.1.2.1.length),(.int .i64 a.1.1.2.2.1),(.bool a.1.1.2.2.2),(.int .i64 a.1.2.1.1),(.int .i64 a.1.2.1.2.1),(.int .i64 a.1.2.1.2.2.1),(.int .i64 a.1.2.1.2.2.2),(.int .i64 a.1.2.2.1),(.int .i64 a.1.2.2.2.1),(ow 4 a.1.2.2.2.2.1.length),(ow 5 a.1.2.2.2.2.2.length)]]),(ob 1 a.2),(ob 1 a.1.1.1),(ob 2 a.1.1.2.1),(ob 2 a.1.2.2.2.2.1),(ob 2 a.1.2.2.2.2.2)]
theorem g19_run (a1:K1) (a2:List Int) :callFn (X g19_S) g19_tf (g19_E (a1,a2)) (g19_B (a1,a2)) = (impl_Pager_releaseAll_occ a1 a2).map g19_O:=by
  rw [callFn_eq]
  simp (maxSteps:=2000000) (maxDischargeDepth:=8) -implicitDefEqProofs [g19_tf,impl_Pager_releaseAll_occ,g19_E,g19_B] <;> (try simp only [map_to_bind,some_elim,g19_O])
def g19_r:MRule:=RmO g19_E g19_B (fun a=>(impl_Pager_releaseAll_occ a.1 a.2).bind fun r=>if r.2.1.length = a.2.length then some (r.1,(fixLen a.2 r.2.1),r.2.2) else none) g19_O
theorem g19_ok0:MRuleOk Tryz.prog 90 2 (RmO g19_E g19_B (fun a=>impl_Pager_releaseAll_occ a.1 a.2) g19_O):=ok_rmo (S:=g19_S) (tf:=g19_tf) (SysOk.on trivial ⟨g24_ok,trivial⟩) (trE_ok (ks:=[[0,8,9,10]]) Tryz.func90 (by kernel_rfl)) (by rfl) (fun _=>by simp [g19_B]) (fun _=>by simp) fun a=>g19_run a.1 a.2
theorem g19_ok:MRuleOk Tryz.prog 90 2 g19_r:=g19_ok0.weak fun a r hr=>by
  simp only [Option.bind_eq_some_iff] at hr
  obtain ⟨x,h1,h2⟩:=hr
  split at h2
  · rename_i hc
    simp only [Option.some.injEq] at h2
    rw [h1,← h2]
    simp [fixLen,hc]
  · cases h2
@[simp] theorem g19_app (y0:List Str)(y1:List (Int × Str))(y2 y3 y4 y5 y6 y7 y8 y9)(y10:List (Int × Str))(y11:List (Int × Str))(y12:List Int){n1:Nat}(h1:n1 = y12.length){n2:Nat}(h2:n2 = y0.length){n3:Nat}(h3:n3 = y1.length){n4:Nat}(h4:n4 = y10.length){n5:Nat}(h5:n5 = y11.length):g19_r [(.ptr 0 0 0),(ow 1 n1)] [(.live 12 [[(ow 2 n2),(ow 3 n3),(.int .i64 y2),(.bool y3),(.int .i64 y4),(.int .i64 y5),(.int .i64 y6),(.int .i64 y7),(.int .i64 y8),(.int .i64 y9),(ow 4 n4),(ow 5 n5)]]),(ob 1 y12),(ob 1 y0),(ob 2 y1),(ob 2 y10),(ob 2 y11)] = ((impl_Pager_releaseAll_occ (((y0,y1,y2,y3),(y4,y5,y6,y7),y8,y9,y10,y11)) y12).bind fun r=>if r.2.1.length = y12.length then some (r.1,(fixLen y12 r.2.1),r.2.2) else none).map g19_O:=by
  subst h1 h2 h3 h4 h5
  exact RmO_app (enc:=g19_E) (encB:=g19_B) (by intro a b h h2; simp [g19_E,g19_B,Prod.ext_iff] at h h2 ⊢; simp [h,h2]) (((y0,y1,y2,y3),(y4,y5,y6,y7),y8,y9,y10,y11),y12)
/-! (*impl.Pager).freeHeader -/
def g20_tf:TFn:=⟨(sq [mk 4 (ki 0)] [0,1] (sq [mo 9 0,mo 10 1,ca 11 31 [.t 9,.t 10],mo 8 11,oo 12 (.ext (.t 8) 0),oo 13 (.ext (.t 8) 1),oo 14 (.ext (.t 8) 2),oo 6 (.alloc [(.int .i64 0),(.int .i64 0),.nils]),mo 5 12,⟨none,none,(.store 3 (.t 6) (.t 13))⟩,mo 7 14] [0,5,7] (.seq (sq [mo 15 7,nt 16 15] [0,5,16] (.cond (.t 16) (.seq (.ops [mk 4 (ki 10)]) (.keep (kp [(4,0)] [(0,2),(1,1),(2,1),(3,1),(4,1)] 1) .ret)) .skip)) (.trim [0,5] (.seq (.ops [mo 17 0,mo 18 5,oo 19 (.callM 90 4 [0,5,1,2,3,4] [.t 17,.t 18]),mo 4 19]) (.keep (kp [(4,0)] [(0,2),(9,1),(10,1),(11,1),(12,1)] 1) .ret)))))),[.t 4]⟩
abbrev g20_S:=Sys.on [(31,g55_r)] [((90,4),(2,g19_r))]
def impl_Pager_freeHeader_of2 (a1:K1) (a2:Int):Option (K1 × Int):=(impl_Pager_chain a1 a2).bind fun r1=>if ¬(r1.2.2 = true) then some (a1,10) else (impl_Pager_releaseAll_occ a1 r1.1).bind fun r2=>if r2.2.1.length = r1.1.length then some (r2.1,r2.2.2) else none
@[simp] def g20_O:(K1 × Int) → TV × List Blk:=fun r=>((.int .i64 r.2),[(.live 12 [[(ow 1 r.1.1.1.length),(ow 2 r.1.1.2.1.length),(.int .i64 r.1.1.2.2.1),(.bool r.1.1.2.2.2),(.int .i64 r.1.2.1.1),(.int .i64 r.1.2.1.2.1),(.int .i64 r.1.2.1.2.2.1),(.int .i64 r.1.2.1.2.2.2),(.int .i64 r.1.2.2.1),(.int .i64 r.1.2.2.2.1),(ow 3 r.1.2.2.2.2.1.length),(ow 4 r.1.2.2.2.2.2.length)]]),(ob 1 r.1.1.1),(ob 2 r.1.1.2.1),(ob 2 r.1.2.2.2.2.1),(ob 2 r.1.2.2.2.2.2)])
abbrev g20_T:=K1 × Int
def g20_E (a:g20_T):List TV:=[(.ptr 0 0 0),(.int .i64 a.2)]
def g20_B (a:g20_T):List Blk:=[(.live 12 [[(ow 1 a.1.1.1.length),(ow 2 a.1.1.2.1.length),(.int .i64 a.1.1.2.2.1),(.bool a.1.1.2.2.2),(.int .i64 a.1.2.1.1),(.int .i64 a.1.2.1.2.1),(.int .i64 a.1.2.1.2.2.1),(.int .i64 a.1.2.1.2.2.2),(.int .i64 a.1.2.2.1),(.int .i64 a.1.2.2.2.1),(ow 3 a.1.2.2.2.2.1.length),(ow 4 a.1.2.2.2.2.2.length)]]),(ob 1 a.1.1.1),(ob 2 a.1.1.2.1),(ob 2 a.1.2.2.2.2.1),(ob 2 a.1.2.2.2.2.2)]
theorem g20_run (a1:K1) (a2:Int) :callFn (X g20_S) g20_tf (g20_E (a1,a2)) (g20_B (a1,a2)) = (impl_Pager_freeHeader_of2 a1 a2).map g20_O:=by
  rw [callFn_eq]
  simp (maxSteps:=2000000) (maxDischargeDepth:=8) -implicitDefEqProofs [g20_tf,impl_Pager_freeHeader_of2,g20_E,g20_B] <;> (try simp only [map_to_bind,some_elim,g20_O])
def g20_r:MRule:=RmO g20_E g20_B (fun a=>impl_Pager_freeHeader_of2 a.1 a.2) g20_O
theorem g20_ok:MRuleOk Tryz.prog 46 1 g20_r:=ok_rmo (S:=g20_S) (tf:=g20_tf) (SysOk.on ⟨g55_ok,trivial⟩ ⟨g19_ok,trivial⟩) (trE_ok (ks:=[]) Tryz.func46 (by kernel_rfl)) (by rfl) (fun _=>by simp [g20_B]) (fun _=>by simp) fun a=>g20_run a.1 a.2
@[simp] theorem g20_app (y0:List Str)(y1:List (Int × Str))(y2 y3 y4 y5 y6 y7 y8 y9)(y10:List (Int × Str))(y11:List (Int × Str))(y12){n1:Nat}(h1:n1 = y0.length){n2:Nat}(h2:n2 = y1.length){n3:Nat}(h3:n3 = y10.length){n4:Nat}(h4:n4 = y11.length):g20_r [(.ptr 0 0 0),(.int .i64 y12)] [(.live 12 [[(ow 1 n1),(ow 2 n2),(.int .i64 y2),(.bool y3),(.int .i64 y4),(.int .i64 y5),(.int .i64 y6),(.int .i64 y7),(.int .i64 y8),(.int .i64 y9),(ow 3 n3),(ow 4 n4)]]),(ob 1 y0),(ob 2 y1),(ob 2 y10),(ob 2 y11)] = (impl_Pager_freeHeader_of2 (((y0,y1,y2,y3),(y4,y5,y6,y7),y8,y9,y10,y11)) y12).map g20_O:=by
  subst h1 h2 h3 h4
  exact RmO_app (enc:=g20_E) (encB:=g20_B) (by intro a b h h2; simp [g20_E,g20_B,Prod.ext_iff] at h h2 ⊢; simp [h,h2]) (((y0,y1,y2,y3),(y4,y5,y6,y7),y8,y9,y10,y11),y12)
/-! impl.FreeHeader.1 -/
def g25_tf:TFn:=⟨(sq [mk 3 (ki 0)] [0,1] (.seq (.ops [mo 4 0,ld 5 1,oo 6 (.callM 46 0 [0,1,2,3,4] [.t 4,.t 5]),mo 3 6]) (.keep (kp [(3,0)] [(0,2),(5,1),(6,1),(7,1),(8,1)] 1) .ret))),[.t 3]⟩
abbrev g25_S:=Sys.on [] [((46,0),(1,g20_r))]
def impl_FreeHeader_c1_o4c (a1:K1) (a2:Int):Option (K1 × Int):=(impl_Pager_freeHeader_of2 a1 a2).bind fun r1=>some (r1.1,r1.2)
@[simp] def g25_O:(K1 × Int) → TV × List Blk:=fun r=>((.int .i64 r.2),[(.live 12 [[(ow 1 r.1.1.1.length),(ow 2 r.1.1.2.1.length),(.int .i64 r.1.1.2.2.1),(.bool r.1.1.2.2.2),(.int .i64 r.1.2.1.1),(.int .i64 r.1.2.1.2.1),(.int .i64 r.1.2.1.2.2.1),(.int .i64 r.1.2.1.2.2.2),(.int .i64 r.1.2.2.1),(.int .i64 r.1.2.2.2.1),(ow 3 r.1.2.2.2.2.1.length),(ow 4 r.1.2.2.2.2.2.length)]]),(ob 1 r.1.1.1),(ob 2 r.1.1.2.1),(ob 2 r.1.2.2.2.2.1),(ob 2 r.1.2.2.2.2.2)])
abbrev g25_T:=K1 × Int
def g25_E (a:g25_T):List TV:=[(.ptr 0 0 0),(.vp [(.int .i64 a.2)])]
def g25_B (a:g25_T):List Blk:=[(.live 12 [[(ow 1 a.1.1.1.length),(ow 2 a.1.1.2.1.length),(.int .i64 a.1.1.2.2.1),(.bool a.1.1.2.2.2),(.int .i64 a.1.2.1.1),(.int .i64 a.1.2.1.2.1),(.int .i64 a.1.2.1.2.2.1),(.int .i64 a.1.2.1.2.2.2),(.int .i64 a.1.2.2.1),(.int .i64 a.1.2.2.2.1),(ow 3 a.1.2.2.2.2.1.length),(ow 4 a.1.2.2.2.2.2.length)]]),(ob 1 a.1.1.1),(ob 2 a.1.1.2.1),(ob 2 a.1.2.2.2.2.1),(ob 2 a.1.2.2.2.2.2)]
theorem g25_run (a1:K1) (a2:Int) :callFn (X g25_S) g25_tf (g25_E (a1,a2)) (g25_B (a1,a2)) = (impl_FreeHeader_c1_o4c a1 a2).map g25_O:=by
  rw [callFn_eq]
  simp (maxSteps:=2000000) (maxDischargeDepth:=8) -implicitDefEqProofs [g25_tf,impl_FreeHeader_c1_o4c,g25_E,g25_B] <;> (try simp only [map_to_bind,some_elim,g25_O])
def g25_r:MRule:=RmO g25_E g25_B (fun a=>impl_FreeHeader_c1_o4c a.1 a.2) g25_O
theorem g25_ok:MRuleOk Tryz.prog 45 1 g25_r:=ok_rmo (S:=g25_S) (tf:=g25_tf) (SysOk.on trivial ⟨g20_ok,trivial⟩) (trE_ok (ks:=[]) Tryz.func45 (by kernel_rfl)) (by rfl) (fun _=>by simp [g25_B]) (fun _=>by simp) fun a=>g25_run a.1 a.2
@[simp] theorem g25_app (y0:List Str)(y1:List (Int × Str))(y2 y3 y4 y5 y6 y7 y8 y9)(y10:List (Int × Str))(y11:List (Int × Str))(y12){n1:Nat}(h1:n1 = y0.length){n2:Nat}(h2:n2 = y1.length){n3:Nat}(h3:n3 = y10.length){n4:Nat}(h4:n4 = y11.length):g25_r [(.ptr 0 0 0),(.vp [(.int .i64 y12)])] [(.live 12 [[(ow 1 n1),(ow 2 n2),(.int .i64 y2),(.bool y3),(.int .i64 y4),(.int .i64 y5),(.int .i64 y6),(.int .i64 y7),(.int .i64 y8),(.int .i64 y9),(ow 3 n3),(ow 4 n4)]]),(ob 1 y0),(ob 2 y1),(ob 2 y10),(ob 2 y11)] = (impl_FreeHeader_c1_o4c (((y0,y1,y2,y3),(y4,y5,y6,y7),y8,y9,y10,y11)) y12).map g25_O:=by
  subst h1 h2 h3 h4
  exact RmO_app (enc:=g25_E) (encB:=g25_B) (by intro a b h h2; simp [g25_E,g25_B,Prod.ext_iff] at h h2 ⊢; simp [h,h2]) (((y0,y1,y2,y3),(y4,y5,y6,y7),y8,y9,y10,y11),y12)
/-! (impl.Pager).changed -/
def g11_tf:TFn:=⟨(sq [bx 2 0,oo 4 (.alloc [.nils,.nils,(.int .i64 0),(.bool false),(.int .i64 0),(.int .i64 0),(.int .i64 0),(.int .i64 0),(.int .i64 0),(.int .i64 0),.nils,.nils]),mk 5 (ki 0)] [1,2,4] (sq [ln 8 12 2,ca 9 89 [.t 8],oo 6 (.alloc [.nils,.nils,(.int .i64 0),(.bool false),(.int .i64 0),(.int .i64 0),(.int .i64 0),(.int .i64 0),(.int .i64 0),(.int .i64 0),.nils,.nils]),⟨none,none,(.store 12 (.t 6) (.t 9))⟩] [1,4,6] (.seq (sq [mo 10 1,oo 11 (.callvM (.t 10) 0 [7,3,4,5,6] [.t 6]),mo 7 11] [4,6,7] (sq [mo 12 7,bn 13 .neq (.t 12) (ki 0)] [4,6,7,13] (.cond (.t 13) (.seq (.ops [oo 14 (.build [.nils,.nils,(.int .i64 0),(.bool false),(.int .i64 0),(.int .i64 0),(.int .i64 0),(.int .i64 0),(.int .i64 0),(.int .i64 0),.nils,.nils] []),mo 15 7,⟨none,none,(.store 12 (.t 4) (.t 14))⟩,mo 5 15]) (.keep (kp [(4,0),(5,0)] [(1,2),(1000,1),(1001,1),(1002,1),(1003,1)] 0) .ret)) .skip))) (.trim [4,6] (.seq (.ops [ln 16 12 6,⟨none,none,(.store 12 (.t 4) (.t 16))⟩,mk 5 (ki 0)]) (.keep (kp [(4,0),(5,0)] [(1,2),(8,1),(9,1),(10,1),(11,1)] 0) .ret)))))),[.cell 4 (some 12),.t 5]⟩
abbrev g11_S:=Sys.on [(89,g53_r)] [((45,0),(1,g25_r))]
def impl_Pager_changed_FreeHeader_c1 (a_p:K1) (a_by:Int):Option (K1 × Int):=(impl_Pager_clone a_p).bind fun r1=>(impl_FreeHeader_c1_o4c r1 a_by).bind fun r2=>if ¬(r2.2 = 0) then some (((([]:List Str),([]:List (Int × Str)),0,false),(0,0,0,0),0,0,([]:List (Int × Str)),([]:List (Int × Str))),r2.2) else some (r2.1,0)
@[simp] def g11_O:(K1 × Int) → TV × List Blk:=fun r=>((.tup [(.agg [(ow 1 r.1.1.1.length),(ow 2 r.1.1.2.1.length),(.int .i64 r.1.1.2.2.1),(.bool r.1.1.2.2.2),(.int .i64 r.1.2.1.1),(.int .i64 r.1.2.1.2.1),(.int .i64 r.1.2.1.2.2.1),(.int .i64 r.1.2.1.2.2.2),(.int .i64 r.1.2.2.1),(.int .i64 r.1.2.2.2.1),(ow 3 r.1.2.2.2.2.1.length),(ow 4 r.1.2.2.2.2.2.length)]),(.int .i64 r.2)]),[(.live 12 [[(ow 1 r.1.1.1.length),(ow 2 r.1.1.2.1.length),(.int .i64 r.1.1.2.2.1),(.bool r.1.1.2.2.2),(.int .i64 r.1.2.1.1),(.int .i64 r.1.2.1.2.1),(.int .i64 r.1.2.1.2.2.1),(.int .i64 r.1.2.1.2.2.2),(.int .i64 r.1.2.2.1),(.int .i64 r.1.2.2.2.1),(ow 3 r.1.2.2.2.2.1.length),(ow 4 r.1.2.2.2.2.2.length)]]),(ob 1 r.1.1.1),(ob 2 r.1.1.2.1),(ob 2 r.1.2.2.2.2.1),(ob 2 r.1.2.2.2.2.2)])
def g11_E (a:K1 × Int):List TV:=[(.agg [(.vs (rows a.1.1.1)),(.vs (rows a.1.1.2.1)),(.int .i64 a.1.1.2.2.1),(.bool a.1.1.2.2.2),(.int .i64 a.1.2.1.1),(.int .i64 a.1.2.1.2.1),(.int .i64 a.1.2.1.2.2.1),(.int .i64 a.1.2.1.2.2.2),(.int .i64 a.1.2.2.1),(.int .i64 a.1.2.2.2.1),(.vs (rows a.1.2.2.2.2.1)),(.vs (rows a.1.2.2.2.2.2))]),(.fn 45 [] [(.vp [(.int .i64 a.2)])])]
theorem g11_run (a_p:K1) (a_by:Int) :callFn (X g11_S) g11_tf (g11_E (a_p,a_by)) [] = (impl_Pager_changed_FreeHeader_c1 a_p a_by).map g11_O:=by
  rw [callFn_eq]
  simp (maxSteps:=2000000) (maxDischargeDepth:=8) -implicitDefEqProofs [g11_tf,impl_Pager_changed_FreeHeader_c1,g11_E] <;> (try simp only [map_to_bind,some_elim,g11_O])
def g11_r:Rule:=RlO g11_E (fun a=>impl_Pager_changed_FreeHeader_c1 a.1 a.2) g11_O
theorem g11_ok:RuleOk Tryz.prog 44 g11_r:=ok_rlo (S:=g11_S) (tf:=g11_tf) (SysOk.on ⟨g53_ok,trivial⟩ ⟨g25_ok,trivial⟩) (trE_ok (ks:=[]) Tryz.func44 (by kernel_rfl)) fun a=>g11_run a.1 a.2
@[simp] theorem g11_app (y0 y1 y2 y3 y4 y5 y6 y7 y8 y9 y10 y11 y12):g11_r [(.agg [(.vs (rows y0)),(.vs (rows y1)),(.int .i64 y2),(.bool y3),(.int .i64 y4),(.int .i64 y5),(.int .i64 y6),(.int .i64 y7),(.int .i64 y8),(.int .i64 y9),(.vs (rows y10)),(.vs (rows y11))]),(.fn 45 [] [(.vp [(.int .i64 y12)])])] = (impl_Pager_changed_FreeHeader_c1 (((y0,y1,y2,y3),(y4,y5,y6,y7),y8,y9,y10,y11)) y12).map g11_O :=
  RlO_app (enc:=g11_E) (by intro a b h; simp [g11_E,Prod.ext_iff] at h ⊢; simp [h]) (((y0,y1,y2,y3),(y4,y5,y6,y7),y8,y9,y10,y11),y12)
/-! impl.FreeHeader -/
def g70_tf:TFn:=⟨(sq [bx 2 0,bx 3 1,oo 4 (.alloc [.nils,.nils,(.int .i64 0),(.bool false),(.int .i64 0),(.int .i64 0),(.int .i64 0),(.int .i64 0),(.int .i64 0),(.int .i64 0),.nils,.nils]),mk 5 (ki 0)] [2,3,4] (.seq (sq [ln 6 12 2,ca 7 30 [.t 6],nt 8 7] [2,3,4,8] (.cond (.t 8) (.seq (.ops [oo 9 (.build [.nils,.nils,(.int .i64 0),(.bool false),(.int .i64 0),(.int .i64 0),(.int .i64 0),(.int .i64 0),(.int .i64 0),(.int .i64 0),.nils,.nils] []),⟨none,none,(.store 12 (.t 4) (.t 9))⟩,mk 5 (ki 1)]) (.keep (kp [(4,0),(5,0)] [(2,2),(1000,1),(1001,1),(1002,1),(1003,1)] 0) .ret)) .skip)) (.trim [2,3,4] (.seq (.ops [ln 10 12 2,oo 11 (.mkfn 45 [] [.t 3]),ca 12 44 [.t 10,.t 11],oo 13 (.ext (.t 12) 0),oo 14 (.ext (.t 12) 1),⟨none,none,(.store 12 (.t 4) (.t 13))⟩,mo 5 14]) (.keep (kp [(4,0),(5,0)] [(2,2),(4,1),(5,1),(6,1),(7,1)] 0) .ret))))),[.cell 4 (some 12),.t 5]⟩
abbrev g70_S:=Sys.on [(30,g65_r),(44,g11_r)] []
def impl_FreeHeader (a_p:K1) (a_at:Int):Option (K1 × Int):=(impl_ValidPager a_p).bind fun r1=>if ¬(r1 = true) then some (((([]:List Str),([]:List (Int × Str)),0,false),(0,0,0,0),0,0,([]:List (Int × Str)),([]:List (Int × Str))),1) else (impl_Pager_changed_FreeHeader_c1 a_p a_at).bind fun r2=>some (r2.1,r2.2)
@[simp] def g70_O:(K1 × Int) → TV × List Blk:=fun r=>((.tup [(.agg [(ow 1 r.1.1.1.length),(ow 2 r.1.1.2.1.length),(.int .i64 r.1.1.2.2.1),(.bool r.1.1.2.2.2),(.int .i64 r.1.2.1.1),(.int .i64 r.1.2.1.2.1),(.int .i64 r.1.2.1.2.2.1),(.int .i64 r.1.2.1.2.2.2),(.int .i64 r.1.2.2.1),(.int .i64 r.1.2.2.2.1),(ow 3 r.1.2.2.2.2.1.length),(ow 4 r.1.2.2.2.2.2.length)]),(.int .i64 r.2)]),[(.live 12 [[(ow 1 r.1.1.1.length),(ow 2 r.1.1.2.1.length),(.int .i64 r.1.1.2.2.1),(.bool r.1.1.2.2.2),(.int .i64 r.1.2.1.1),(.int .i64 r.1.2.1.2.1),(.int .i64 r.1.2.1.2.2.1),(.int .i64 r.1.2.1.2.2.2),(.int .i64 r.1.2.2.1),(.int .i64 r.1.2.2.2.1),(ow 3 r.1.2.2.2.2.1.length),(ow 4 r.1.2.2.2.2.2.length)]]),(ob 1 r.1.1.1),(ob 2 r.1.1.2.1),(ob 2 r.1.2.2.2.2.1),(ob 2 r.1.2.2.2.2.2)])
def g70_E (a:K1 × Int):List TV:=[(.agg [(.vs (rows a.1.1.1)),(.vs (rows a.1.1.2.1)),(.int .i64 a.1.1.2.2.1),(.bool a.1.1.2.2.2),(.int .i64 a.1.2.1.1),(.int .i64 a.1.2.1.2.1),(.int .i64 a.1.2.1.2.2.1),(.int .i64 a.1.2.1.2.2.2),(.int .i64 a.1.2.2.1),(.int .i64 a.1.2.2.2.1),(.vs (rows a.1.2.2.2.2.1)),(.vs (rows a.1.2.2.2.2.2))]),(.int .i64 a.2)]
theorem g70_run (a_p:K1) (a_at:Int) :callFn (X g70_S) g70_tf (g70_E (a_p,a_at)) [] = (impl_FreeHeader a_p a_at).map g70_O:=by
  rw [callFn_eq]
  simp (maxSteps:=2000000) (maxDischargeDepth:=8) -implicitDefEqProofs [g70_tf,impl_FreeHeader,g70_E] <;> (try simp only [map_to_bind,some_elim,g70_O])
def g70_r:Rule:=RlO g70_E (fun a=>impl_FreeHeader a.1 a.2) g70_O
theorem g70_ok:RuleOk Tryz.prog 21 g70_r:=ok_rlo (S:=g70_S) (tf:=g70_tf) (SysOk.on ⟨g65_ok,g11_ok,trivial⟩ trivial) (trE_ok (ks:=[]) Tryz.func21 (by kernel_rfl)) fun a=>g70_run a.1 a.2
@[simp] theorem g70_app (y0 y1 y2 y3 y4 y5 y6 y7 y8 y9 y10 y11 y12):g70_r [(.agg [(.vs (rows y0)),(.vs (rows y1)),(.int .i64 y2),(.bool y3),(.int .i64 y4),(.int .i64 y5),(.int .i64 y6),(.int .i64 y7),(.int .i64 y8),(.int .i64 y9),(.vs (rows y10)),(.vs (rows y11))]),(.int .i64 y12)] = (impl_FreeHeader (((y0,y1,y2,y3),(y4,y5,y6,y7),y8,y9,y10,y11)) y12).map g70_O :=
  RlO_app (enc:=g70_E) (by intro a b h; simp [g70_E,Prod.ext_iff] at h ⊢; simp [h]) (((y0,y1,y2,y3),(y4,y5,y6,y7),y8,y9,y10,y11),y12)
/-! laws.eqStringS -/
def g83l1_cb:TC:=(.seq (sq [mo 11 5,mo 12 0,le 13 12,bn 14 .lss (.t 11) (.t 13)] [0,1,5,14] (.cond (.t 14) .skip (.keep (kp [] [] 0) (.exit 0)))) (.trim [0,1,5] (.seq (.block 1 (.seq (.draw [([],mo 17 0),([],mo 18 5),([0,1],ia 19 1 17 18),([0,1,2],ld 20 19),([],mo 21 1),([],mo 22 5),([4,5],ia 23 1 21 22),([4,5,6],ld 24 23)] [oo 25 (.bin .str .neq (.t 20) (.t 24))]) (.trim [0,1,5,25] (.cond (.t 25) (.seq (.ops [mk 4 (kb false)]) (.keep (kp [(4,0)] [] 0) .ret)) .skip)))) (.trim [0,1,5] (.after (.ops [mo 15 5,bn 16 .add (.t 15) (ki 1),mo 5 16]) (kp [(0,0),(1,0),(5,0)] [] 0))))))
def g83l1_c:TC:=.loop [0,1,5] g83l1_cb
def g83_tf:TFn:=⟨(sq [mk 4 (kb false)] [0,1] (.seq (sq [mo 6 0,le 7 6,mo 8 1,le 9 8,bn 10 .neq (.t 7) (.t 9)] [0,1,10] (.cond (.t 10) (.seq (.ops [mk 4 (kb false)]) (.keep (kp [(4,0)] [] 0) .ret)) .skip)) (.trim [0,1] (.seq (sq [mk 5 (ki 0)] [0,1,5] (.block 0 (.keep (kp [(0,0),(1,0),(5,0)] [] 0) g83l1_c))) (.trim [] (.seq (.ops [mk 4 (kb true)]) (.keep (kp [(4,0)] [] 0) .ret))))))),[.t 4]⟩
abbrev g83_S:=Sys.on [] []
@[reducible,simp] def g83l1_F:((Unit) ⊕ (Bool)) → Out:=(Sum.elim (fun t=>(.ext 0,[],[])) (fun t=>(.ret,[(4,(.bool t))],[])))
def laws_eqStringS_l1_b (v1:List Str) (v2:List Str) (v3:Int):Option ((Int) ⊕ ((Unit) ⊕ (Bool))):=if v3 < (v1.length:Int) then if 0 ≤ v3 then (v1[(v3).toNat]?).bind fun x4=>if 0 ≤ v3 then (v2[(v3).toNat]?).bind fun x5=>if ¬(x4 = x5) then some (.inr (.inr false)) else some (.inl ((IntKind.i64.wrap (v3 + 1)))) else none else none else some (.inr (.inl ()))
theorem g83l1_b_eq  (v1:List Str) (v2:List Str) (v3:Int):X g83_S g83l1_cb (keepEnv [0,1,5] [(0,(.vs (rows v1))),(1,(.vs (rows v2))),(5,(.int .i64 v3))]) [] = (laws_eqStringS_l1_b v1 v2 v3).map (Sum.elim (fun s=>(TX.nrm,[(0,(.vs (rows v1))),(1,(.vs (rows v2))),(5,(.int .i64 s))],[])) g83l1_F):=by
  simp (maxSteps:=2000000) (maxDischargeDepth:=8) -implicitDefEqProofs [g83l1_cb,laws_eqStringS_l1_b] <;> (try simp only [map_to_bind,some_elim,g83l1_F])
def laws_eqStringS_l1 (v1:List Str) (v2:List Str) (s:Int):Option ((Unit) ⊕ (Bool)):=loopO (fun s=>laws_eqStringS_l1_b v1 v2 s) s
@[simp] theorem g83l1_eq (y0 y1 y2):X g83_S g83l1_c [(0,(.vs (rows y0))),(1,(.vs (rows y1))),(5,(.int .i64 y2))] [] = (laws_eqStringS_l1 y0 y1 y2).map g83l1_F:=by
  exact loop_X _ _ _ _ (by intro r; first | (simp; done) | (rcases r with r | r <;> simp; done) | (rcases r with r | r | r <;> simp; done) | (rcases r with r | r | r | r <;> simp)) (fun s=>g83l1_b_eq  y0 y1 s) y2
def laws_eqStringS (a_a:List Str) (a_b:List Str):Option (Bool):=if ¬((a_a.length:Int) = (a_b.length:Int)) then some false else (laws_eqStringS_l1 a_a a_b 0).bind fun r6=>Sum.elim (fun u7=>some true) (fun u8=>some u8) r6
@[simp] def g83_O:Bool → TV × List Blk:=fun r=>((.bool r),[])
def g83_E (a:List Str × List Str):List TV:=[(.vs (rows a.1)),(.vs (rows a.2))]
theorem g83_run (a_a:List Str) (a_b:List Str) :callFn (X g83_S) g83_tf (g83_E (a_a,a_b)) [] = (laws_eqStringS a_a a_b).map g83_O:=by
  rw [callFn_eq]
  simp (maxSteps:=2000000) (maxDischargeDepth:=8) -implicitDefEqProofs [g83_tf,laws_eqStringS,g83_E] <;> (try simp only [map_to_bind,some_elim,g83_O])
def g83_r:Rule:=RlO g83_E (fun a=>laws_eqStringS a.1 a.2) g83_O
theorem g83_ok:RuleOk Tryz.prog 79 g83_r:=ok_rlo (S:=g83_S) (tf:=g83_tf) (SysOk.on trivial trivial) (trE_ok (ks:=[[0,1,5],[8]]) Tryz.func79 (by kernel_rfl)) fun a=>g83_run a.1 a.2
@[simp] theorem g83_app (y0 y1):g83_r [(.vs (rows y0)),(.vs (rows y1))] = (laws_eqStringS y0 y1).map g83_O :=
  RlO_app (enc:=g83_E) (by intro a b h; simp [g83_E,Prod.ext_iff] at h ⊢; simp [h]) (y0,y1)
/-! laws.eqPut -/
def g139_tf:TFn:=⟨(sq [bx 2 0,bx 3 1,mk 4 (kb false)] [2,3] (.seq (sq [fa 5 0 2,ld 6 5,fa 7 0 3,ld 8 7,bn 9 .neq (.t 6) (.t 8)] [2,3,9] (.cond (.t 9) (.seq (.ops [mk 4 (kb false)]) (.keep (kp [(4,0)] [] 0) .ret)) .skip)) (.trim [2,3] (.seq (sq [fa 10 1 2,ld 11 10,fa 12 1 3,ld 13 12,oo 14 (.bin .str .neq (.t 11) (.t 13))] [14] (.cond (.t 14) (.seq (.ops [mk 4 (kb false)]) (.keep (kp [(4,0)] [] 0) .ret)) .skip)) (.trim [] (.seq (.ops [mk 4 (kb true)]) (.keep (kp [(4,0)] [] 0) .ret))))))),[.t 4]⟩
abbrev g139_S:=Sys.on [] []
def laws_eqPut (a_a:Int × Str) (a_b:Int × Str):Option (Bool):=if ¬(a_a.1 = a_b.1) then some false else if ¬(a_a.2 = a_b.2) then some false else some true
@[simp] def g139_O:Bool → TV × List Blk:=fun r=>((.bool r),[])
def g139_E (a:(Int × Str) × (Int × Str)):List TV:=[(.agg [(.int .i64 a.1.1),(.str a.1.2)]),(.agg [(.int .i64 a.2.1),(.str a.2.2)])]
theorem g139_run (a_a:Int × Str) (a_b:Int × Str) :callFn (X g139_S) g139_tf (g139_E (a_a,a_b)) [] = (laws_eqPut a_a a_b).map g139_O:=by
  rw [callFn_eq]
  simp (maxSteps:=2000000) (maxDischargeDepth:=8) -implicitDefEqProofs [g139_tf,laws_eqPut,g139_E] <;> (try simp only [map_to_bind,some_elim,g139_O])
def g139_r:Rule:=RlO g139_E (fun a=>laws_eqPut a.1 a.2) g139_O
theorem g139_ok:RuleOk Tryz.prog 125 g139_r:=ok_rlo (S:=g139_S) (tf:=g139_tf) (SysOk.on trivial trivial) (trE_ok (ks:=[]) Tryz.func125 (by kernel_rfl)) fun a=>g139_run a.1 a.2
@[simp] theorem g139_app (y0 y1 y2 y3):g139_r [(.agg [(.int .i64 y0),(.str y1)]),(.agg [(.int .i64 y2),(.str y3)])] = (laws_eqPut ((y0,y1)) ((y2,y3))).map g139_O :=
  RlO_app (enc:=g139_E) (by intro a b h; simp [g139_E,Prod.ext_iff] at h ⊢; simp [h]) ((y0,y1),(y2,y3))
/-! laws.eqPutS -/
def g130l1_cb:TC:=(.seq (sq [mo 11 5,mo 12 0,le 13 12,bn 14 .lss (.t 11) (.t 13)] [0,1,5,14] (.cond (.t 14) .skip (.keep (kp [] [] 0) (.exit 0)))) (.trim [0,1,5] (.seq (.block 1 (.seq (.draw [([],mo 17 0),([],mo 18 5),([0,1],ia 19 2 17 18),([0,1,2],ln 20 2 19),([],mo 21 1),([],mo 22 5),([4,5],ia 23 2 21 22),([4,5,6],ln 24 2 23)] [ca 25 125 [.t 20,.t 24],nt 26 25]) (.trim [0,1,5,26] (.cond (.t 26) (.seq (.ops [mk 4 (kb false)]) (.keep (kp [(4,0)] [] 0) .ret)) .skip)))) (.trim [0,1,5] (.after (.ops [mo 15 5,bn 16 .add (.t 15) (ki 1),mo 5 16]) (kp [(0,0),(1,0),(5,0)] [] 0))))))
def g130l1_c:TC:=.loop [0,1,5] g130l1_cb
def g130_tf:TFn:=⟨(sq [mk 4 (kb false)] [0,1] (.seq (sq [mo 6 0,le 7 6,mo 8 1,le 9 8,bn 10 .neq (.t 7) (.t 9)] [0,1,10] (.cond (.t 10) (.seq (.ops [mk 4 (kb false)]) (.keep (kp [(4,0)] [] 0) .ret)) .skip)) (.trim [0,1] (.seq (sq [mk 5 (ki 0)] [0,1,5] (.block 0 (.keep (kp [(0,0),(1,0),(5,0)] [] 0) g130l1_c))) (.trim [] (.seq (.ops [mk 4 (kb true)]) (.keep (kp [(4,0)] [] 0) .ret))))))),[.t 4]⟩
abbrev g130_S:=Sys.on [(125,g139_r)] []
@[reducible,simp] def g130l1_F:((Unit) ⊕ (Bool)) → Out:=(Sum.elim (fun t=>(.ext 0,[],[])) (fun t=>(.ret,[(4,(.bool t))],[])))
def laws_eqPutS_l1_b (v1:List (Int × Str)) (v2:List (Int × Str)) (v3:Int):Option ((Int) ⊕ ((Unit) ⊕ (Bool))):=if v3 < (v1.length:Int) then if 0 ≤ v3 then (v1[(v3).toNat]?).bind fun x4=>if 0 ≤ v3 then (v2[(v3).toNat]?).bind fun x5=>(laws_eqPut x4 x5).bind fun r6=>if ¬(r6 = true) then some (.inr (.inr false)) else some (.inl ((IntKind.i64.wrap (v3 + 1)))) else none else none else some (.inr (.inl ()))
theorem g130l1_b_eq  (v1:List (Int × Str)) (v2:List (Int × Str)) (v3:Int):X g130_S g130l1_cb (keepEnv [0,1,5] [(0,(.vs (rows v1))),(1,(.vs (rows v2))),(5,(.int .i64 v3))]) [] = (laws_eqPutS_l1_b v1 v2 v3).map (Sum.elim (fun s=>(TX.nrm,[(0,(.vs (rows v1))),(1,(.vs (rows v2))),(5,(.int .i64 s))],[])) g130l1_F):=by
  simp (maxSteps:=2000000) (maxDischargeDepth:=8) -implicitDefEqProofs [g130l1_cb,laws_eqPutS_l1_b] <;> (try simp only [map_to_bind,some_elim,g130l1_F])
def laws_eqPutS_l1 (v1:List (Int × Str)) (v2:List (Int × Str)) (s:Int):Option ((Unit) ⊕ (Bool)):=loopO (fun s=>laws_eqPutS_l1_b v1 v2 s) s
@[simp] theorem g130l1_eq (y0 y1 y2):X g130_S g130l1_c [(0,(.vs (rows y0))),(1,(.vs (rows y1))),(5,(.int .i64 y2))] [] = (laws_eqPutS_l1 y0 y1 y2).map g130l1_F:=by
  exact loop_X _ _ _ _ (by intro r; first | (simp; done) | (rcases r with r | r <;> simp; done) | (rcases r with r | r | r <;> simp; done) | (rcases r with r | r | r | r <;> simp)) (fun s=>g130l1_b_eq  y0 y1 s) y2
def laws_eqPutS (a_a:List (Int × Str)) (a_b:List (Int × Str)):Option (Bool):=if ¬((a_a.length:Int) = (a_b.length:Int)) then some false else (laws_eqPutS_l1 a_a a_b 0).bind fun r7=>Sum.elim (fun u8=>some true) (fun u9=>some u9) r7
@[simp] def g130_O:Bool → TV × List Blk:=fun r=>((.bool r),[])
def g130_E (a:(List (Int × Str)) × (List (Int × Str))):List TV:=[(.vs (rows a.1)),(.vs (rows a.2))]
theorem g130_run (a_a:List (Int × Str)) (a_b:List (Int × Str)) :callFn (X g130_S) g130_tf (g130_E (a_a,a_b)) [] = (laws_eqPutS a_a a_b).map g130_O:=by
  rw [callFn_eq]
  simp (maxSteps:=2000000) (maxDischargeDepth:=8) -implicitDefEqProofs [g130_tf,laws_eqPutS,g130_E] <;> (try simp only [map_to_bind,some_elim,g130_O])
def g130_r:Rule:=RlO g130_E (fun a=>laws_eqPutS a.1 a.2) g130_O
theorem g130_ok:RuleOk Tryz.prog 80 g130_r:=ok_rlo (S:=g130_S) (tf:=g130_tf) (SysOk.on ⟨g139_ok,trivial⟩ trivial) (trE_ok (ks:=[[0,1,5],[8]]) Tryz.func80 (by kernel_rfl)) fun a=>g130_run a.1 a.2
@[simp] theorem g130_app (y0 y1):g130_r [(.vs (rows y0)),(.vs (rows y1))] = (laws_eqPutS y0 y1).map g130_O :=
  RlO_app (enc:=g130_E) (by intro a b h; simp [g130_E,Prod.ext_iff] at h ⊢; simp [h]) (y0,y1)
/-! laws.eqDisk -/
def g131_tf:TFn:=⟨(sq [bx 2 0,bx 3 1,mk 4 (kb false)] [2,3] (.seq (sq [fa 5 0 2,ld 6 5,fa 7 0 3,ld 8 7,ca 9 79 [.t 6,.t 8],nt 10 9] [2,3,10] (.cond (.t 10) (.seq (.ops [mk 4 (kb false)]) (.keep (kp [(4,0)] [] 0) .ret)) .skip)) (.trim [2,3] (.seq (sq [fa 11 1 2,ld 12 11,fa 13 1 3,ld 14 13,ca 15 80 [.t 12,.t 14],nt 16 15] [2,3,16] (.cond (.t 16) (.seq (.ops [mk 4 (kb false)]) (.keep (kp [(4,0)] [] 0) .ret)) .skip)) (.trim [2,3] (.seq (sq [fa 17 2 2,ld 18 17,fa 19 2 3,ld 20 19,bn 21 .neq (.t 18) (.t 20)] [2,3,21] (.cond (.t 21) (.seq (.ops [mk 4 (kb false)]) (.keep (kp [(4,0)] [] 0) .ret)) .skip)) (.trim [2,3] (.seq (sq [fa 22 3 2,ld 23 22,fa 24 3 3,ld 25 24,oo 26 (.bin .bool .neq (.t 23) (.t 25))] [26] (.cond (.t 26) (.seq (.ops [mk 4 (kb false)]) (.keep (kp [(4,0)] [] 0) .ret)) .skip)) (.trim [] (.seq (.ops [mk 4 (kb true)]) (.keep (kp [(4,0)] [] 0) .ret))))))))))),[.t 4]⟩
abbrev g131_S:=Sys.on [(79,g83_r),(80,g130_r)] []
def laws_eqDisk (a_a:K0) (a_b:K0):Option (Bool):=(laws_eqStringS a_a.1 a_b.1).bind fun r1=>if ¬(r1 = true) then some false else (laws_eqPutS a_a.2.1 a_b.2.1).bind fun r2=>if ¬(r2 = true) then some false else if ¬(a_a.2.2.1 = a_b.2.2.1) then some false else if ((!(a_a.2.2.2 == a_b.2.2.2))) = true then some false else some true
@[simp] def g131_O:Bool → TV × List Blk:=fun r=>((.bool r),[])
def g131_E (a:K0 × K0):List TV:=[(.agg [(.vs (rows a.1.1)),(.vs (rows a.1.2.1)),(.int .i64 a.1.2.2.1),(.bool a.1.2.2.2)]),(.agg [(.vs (rows a.2.1)),(.vs (rows a.2.2.1)),(.int .i64 a.2.2.2.1),(.bool a.2.2.2.2)])]
theorem g131_run (a_a:K0) (a_b:K0) :callFn (X g131_S) g131_tf (g131_E (a_a,a_b)) [] = (laws_eqDisk a_a a_b).map g131_O:=by
  rw [callFn_eq]
  simp (maxSteps:=2000000) (maxDischargeDepth:=8) -implicitDefEqProofs [g131_tf,laws_eqDisk,g131_E] <;> (try simp only [map_to_bind,some_elim,g131_O])
def g131_r:Rule:=RlO g131_E (fun a=>laws_eqDisk a.1 a.2) g131_O
theorem g131_ok:RuleOk Tryz.prog 32 g131_r:=ok_rlo (S:=g131_S) (tf:=g131_tf) (SysOk.on ⟨g83_ok,g130_ok,trivial⟩ trivial) (trE_ok (ks:=[]) Tryz.func32 (by kernel_rfl)) fun a=>g131_run a.1 a.2
@[simp] theorem g131_app (y0 y1 y2 y3 y4 y5 y6 y7):g131_r [(.agg [(.vs (rows y0)),(.vs (rows y1)),(.int .i64 y2),(.bool y3)]),(.agg [(.vs (rows y4)),(.vs (rows y5)),(.int .i64 y6),(.bool y7)])] = (laws_eqDisk ((y0,y1,y2,y3)) ((y4,y5,y6,y7))).map g131_O :=
  RlO_app (enc:=g131_E) (by intro a b h; simp [g131_E,Prod.ext_iff] at h ⊢; simp [h]) ((y0,y1,y2,y3),(y4,y5,y6,y7))
/-! laws.eqSuper -/
def g113_tf:TFn:=⟨(sq [bx 2 0,bx 3 1,mk 4 (kb false)] [2,3] (.seq (sq [fa 5 0 2,ld 6 5,fa 7 0 3,ld 8 7,bn 9 .neq (.t 6) (.t 8)] [2,3,9] (.cond (.t 9) (.seq (.ops [mk 4 (kb false)]) (.keep (kp [(4,0)] [] 0) .ret)) .skip)) (.trim [2,3] (.seq (sq [fa 10 1 2,ld 11 10,fa 12 1 3,ld 13 12,bn 14 .neq (.t 11) (.t 13)] [2,3,14] (.cond (.t 14) (.seq (.ops [mk 4 (kb false)]) (.keep (kp [(4,0)] [] 0) .ret)) .skip)) (.trim [2,3] (.seq (sq [fa 15 2 2,ld 16 15,fa 17 2 3,ld 18 17,bn 19 .neq (.t 16) (.t 18)] [2,3,19] (.cond (.t 19) (.seq (.ops [mk 4 (kb false)]) (.keep (kp [(4,0)] [] 0) .ret)) .skip)) (.trim [2,3] (.seq (sq [fa 20 3 2,ld 21 20,fa 22 3 3,ld 23 22,bn 24 .neq (.t 21) (.t 23)] [24] (.cond (.t 24) (.seq (.ops [mk 4 (kb false)]) (.keep (kp [(4,0)] [] 0) .ret)) .skip)) (.trim [] (.seq (.ops [mk 4 (kb true)]) (.keep (kp [(4,0)] [] 0) .ret))))))))))),[.t 4]⟩
abbrev g113_S:=Sys.on [] []
def laws_eqSuper (a_a:Int × Int × Int × Int) (a_b:Int × Int × Int × Int):Option (Bool):=if ¬(a_a.1 = a_b.1) then some false else if ¬(a_a.2.1 = a_b.2.1) then some false else if ¬(a_a.2.2.1 = a_b.2.2.1) then some false else if ¬(a_a.2.2.2 = a_b.2.2.2) then some false else some true
@[simp] def g113_O:Bool → TV × List Blk:=fun r=>((.bool r),[])
def g113_E (a:(Int × Int × Int × Int) × (Int × Int × Int × Int)):List TV:=[(.agg [(.int .i64 a.1.1),(.int .i64 a.1.2.1),(.int .i64 a.1.2.2.1),(.int .i64 a.1.2.2.2)]),(.agg [(.int .i64 a.2.1),(.int .i64 a.2.2.1),(.int .i64 a.2.2.2.1),(.int .i64 a.2.2.2.2)])]
theorem g113_run (a_a:Int × Int × Int × Int) (a_b:Int × Int × Int × Int) :callFn (X g113_S) g113_tf (g113_E (a_a,a_b)) [] = (laws_eqSuper a_a a_b).map g113_O:=by
  rw [callFn_eq]
  simp (maxSteps:=2000000) (maxDischargeDepth:=8) -implicitDefEqProofs [g113_tf,laws_eqSuper,g113_E] <;> (try simp only [map_to_bind,some_elim,g113_O])
def g113_r:Rule:=RlO g113_E (fun a=>laws_eqSuper a.1 a.2) g113_O
theorem g113_ok:RuleOk Tryz.prog 33 g113_r:=ok_rlo (S:=g113_S) (tf:=g113_tf) (SysOk.on trivial trivial) (trE_ok (ks:=[]) Tryz.func33 (by kernel_rfl)) fun a=>g113_run a.1 a.2
@[simp] theorem g113_app (y0 y1 y2 y3 y4 y5 y6 y7):g113_r [(.agg [(.int .i64 y0),(.int .i64 y1),(.int .i64 y2),(.int .i64 y3)]),(.agg [(.int .i64 y4),(.int .i64 y5),(.int .i64 y6),(.int .i64 y7)])] = (laws_eqSuper ((y0,y1,y2,y3)) ((y4,y5,y6,y7))).map g113_O :=
  RlO_app (enc:=g113_E) (by intro a b h; simp [g113_E,Prod.ext_iff] at h ⊢; simp [h]) ((y0,y1,y2,y3),(y4,y5,y6,y7))
/-! laws.eqPage -/
def g132_tf:TFn:=⟨(sq [bx 2 0,bx 3 1,mk 4 (kb false)] [2,3] (.seq (sq [fa 5 0 2,ld 6 5,fa 7 0 3,ld 8 7,bn 9 .neq (.t 6) (.t 8)] [2,3,9] (.cond (.t 9) (.seq (.ops [mk 4 (kb false)]) (.keep (kp [(4,0)] [] 0) .ret)) .skip)) (.trim [2,3] (.seq (sq [fa 10 1 2,ld 11 10,fa 12 1 3,ld 13 12,oo 14 (.bin .str .neq (.t 11) (.t 13))] [14] (.cond (.t 14) (.seq (.ops [mk 4 (kb false)]) (.keep (kp [(4,0)] [] 0) .ret)) .skip)) (.trim [] (.seq (.ops [mk 4 (kb true)]) (.keep (kp [(4,0)] [] 0) .ret))))))),[.t 4]⟩
abbrev g132_S:=Sys.on [] []
def laws_eqPage (a_a:Int × Str) (a_b:Int × Str):Option (Bool):=if ¬(a_a.1 = a_b.1) then some false else if ¬(a_a.2 = a_b.2) then some false else some true
@[simp] def g132_O:Bool → TV × List Blk:=fun r=>((.bool r),[])
def g132_E (a:(Int × Str) × (Int × Str)):List TV:=[(.agg [(.int .i64 a.1.1),(.str a.1.2)]),(.agg [(.int .i64 a.2.1),(.str a.2.2)])]
theorem g132_run (a_a:Int × Str) (a_b:Int × Str) :callFn (X g132_S) g132_tf (g132_E (a_a,a_b)) [] = (laws_eqPage a_a a_b).map g132_O:=by
  rw [callFn_eq]
  simp (maxSteps:=2000000) (maxDischargeDepth:=8) -implicitDefEqProofs [g132_tf,laws_eqPage,g132_E] <;> (try simp only [map_to_bind,some_elim,g132_O])
def g132_r:Rule:=RlO g132_E (fun a=>laws_eqPage a.1 a.2) g132_O
theorem g132_ok:RuleOk Tryz.prog 81 g132_r:=ok_rlo (S:=g132_S) (tf:=g132_tf) (SysOk.on trivial trivial) (trE_ok (ks:=[]) Tryz.func81 (by kernel_rfl)) fun a=>g132_run a.1 a.2
@[simp] theorem g132_app (y0 y1 y2 y3):g132_r [(.agg [(.int .i64 y0),(.str y1)]),(.agg [(.int .i64 y2),(.str y3)])] = (laws_eqPage ((y0,y1)) ((y2,y3))).map g132_O :=
  RlO_app (enc:=g132_E) (by intro a b h; simp [g132_E,Prod.ext_iff] at h ⊢; simp [h]) ((y0,y1),(y2,y3))
/-! laws.eqPageS -/
def g114l1_cb:TC:=(.seq (sq [mo 11 5,mo 12 0,le 13 12,bn 14 .lss (.t 11) (.t 13)] [0,1,5,14] (.cond (.t 14) .skip (.keep (kp [] [] 0) (.exit 0)))) (.trim [0,1,5] (.seq (.block 1 (.seq (.draw [([],mo 17 0),([],mo 18 5),([0,1],ia 19 2 17 18),([0,1,2],ln 20 2 19),([],mo 21 1),([],mo 22 5),([4,5],ia 23 2 21 22),([4,5,6],ln 24 2 23)] [ca 25 81 [.t 20,.t 24],nt 26 25]) (.trim [0,1,5,26] (.cond (.t 26) (.seq (.ops [mk 4 (kb false)]) (.keep (kp [(4,0)] [] 0) .ret)) .skip)))) (.trim [0,1,5] (.after (.ops [mo 15 5,bn 16 .add (.t 15) (ki 1),mo 5 16]) (kp [(0,0),(1,0),(5,0)] [] 0))))))
def g114l1_c:TC:=.loop [0,1,5] g114l1_cb
def g114_tf:TFn:=⟨(sq [mk 4 (kb false)] [0,1] (.seq (sq [mo 6 0,le 7 6,mo 8 1,le 9 8,bn 10 .neq (.t 7) (.t 9)] [0,1,10] (.cond (.t 10) (.seq (.ops [mk 4 (kb false)]) (.keep (kp [(4,0)] [] 0) .ret)) .skip)) (.trim [0,1] (.seq (sq [mk 5 (ki 0)] [0,1,5] (.block 0 (.keep (kp [(0,0),(1,0),(5,0)] [] 0) g114l1_c))) (.trim [] (.seq (.ops [mk 4 (kb true)]) (.keep (kp [(4,0)] [] 0) .ret))))))),[.t 4]⟩
abbrev g114_S:=Sys.on [(81,g132_r)] []
@[reducible,simp] def g114l1_F:((Unit) ⊕ (Bool)) → Out:=(Sum.elim (fun t=>(.ext 0,[],[])) (fun t=>(.ret,[(4,(.bool t))],[])))
def laws_eqPageS_l1_b (v1:List (Int × Str)) (v2:List (Int × Str)) (v3:Int):Option ((Int) ⊕ ((Unit) ⊕ (Bool))):=if v3 < (v1.length:Int) then if 0 ≤ v3 then (v1[(v3).toNat]?).bind fun x4=>if 0 ≤ v3 then (v2[(v3).toNat]?).bind fun x5=>(laws_eqPage x4 x5).bind fun r6=>if ¬(r6 = true) then some (.inr (.inr false)) else some (.inl ((IntKind.i64.wrap (v3 + 1)))) else none else none else some (.inr (.inl ()))
theorem g114l1_b_eq  (v1:List (Int × Str)) (v2:List (Int × Str)) (v3:Int):X g114_S g114l1_cb (keepEnv [0,1,5] [(0,(.vs (rows v1))),(1,(.vs (rows v2))),(5,(.int .i64 v3))]) [] = (laws_eqPageS_l1_b v1 v2 v3).map (Sum.elim (fun s=>(TX.nrm,[(0,(.vs (rows v1))),(1,(.vs (rows v2))),(5,(.int .i64 s))],[])) g114l1_F):=by
  simp (maxSteps:=2000000) (maxDischargeDepth:=8) -implicitDefEqProofs [g114l1_cb,laws_eqPageS_l1_b] <;> (try simp only [map_to_bind,some_elim,g114l1_F])
def laws_eqPageS_l1 (v1:List (Int × Str)) (v2:List (Int × Str)) (s:Int):Option ((Unit) ⊕ (Bool)):=loopO (fun s=>laws_eqPageS_l1_b v1 v2 s) s
@[simp] theorem g114l1_eq (y0 y1 y2):X g114_S g114l1_c [(0,(.vs (rows y0))),(1,(.vs (rows y1))),(5,(.int .i64 y2))] [] = (laws_eqPageS_l1 y0 y1 y2).map g114l1_F:=by
  exact loop_X _ _ _ _ (by intro r; first | (simp; done) | (rcases r with r | r <;> simp; done) | (rcases r with r | r | r <;> simp; done) | (rcases r with r | r | r | r <;> simp)) (fun s=>g114l1_b_eq  y0 y1 s) y2
def laws_eqPageS (a_a:List (Int × Str)) (a_b:List (Int × Str)):Option (Bool):=if ¬((a_a.length:Int) = (a_b.length:Int)) then some false else (laws_eqPageS_l1 a_a a_b 0).bind fun r7=>Sum.elim (fun u8=>some true) (fun u9=>some u9) r7
@[simp] def g114_O:Bool → TV × List Blk:=fun r=>((.bool r),[])
def g114_E (a:(List (Int × Str)) × (List (Int × Str))):List TV:=[(.vs (rows a.1)),(.vs (rows a.2))]
theorem g114_run (a_a:List (Int × Str)) (a_b:List (Int × Str)) :callFn (X g114_S) g114_tf (g114_E (a_a,a_b)) [] = (laws_eqPageS a_a a_b).map g114_O:=by
  rw [callFn_eq]
  simp (maxSteps:=2000000) (maxDischargeDepth:=8) -implicitDefEqProofs [g114_tf,laws_eqPageS,g114_E] <;> (try simp only [map_to_bind,some_elim,g114_O])
def g114_r:Rule:=RlO g114_E (fun a=>laws_eqPageS a.1 a.2) g114_O
theorem g114_ok:RuleOk Tryz.prog 34 g114_r:=ok_rlo (S:=g114_S) (tf:=g114_tf) (SysOk.on ⟨g132_ok,trivial⟩ trivial) (trE_ok (ks:=[[0,1,5],[8]]) Tryz.func34 (by kernel_rfl)) fun a=>g114_run a.1 a.2
@[simp] theorem g114_app (y0 y1):g114_r [(.vs (rows y0)),(.vs (rows y1))] = (laws_eqPageS y0 y1).map g114_O :=
  RlO_app (enc:=g114_E) (by intro a b h; simp [g114_E,Prod.ext_iff] at h ⊢; simp [h]) (y0,y1)
/-! laws.eqPager -/
def g115_tf:TFn:=⟨(sq [bx 2 0,bx 3 1,mk 4 (kb false)] [2,3] (.seq (sq [fa 5 0 2,ln 6 4 5,fa 7 0 3,ln 8 4 7,ca 9 32 [.t 6,.t 8],nt 10 9] [2,3,10] (.cond (.t 10) (.seq (.ops [mk 4 (kb false)]) (.keep (kp [(4,0)] [] 0) .ret)) .skip)) (.trim [2,3] (.seq (sq [fa 11 4 2,ln 12 4 11,fa 13 4 3,ln 14 4 13,ca 15 33 [.t 12,.t 14],nt 16 15] [2,3,16] (.cond (.t 16) (.seq (.ops [mk 4 (kb false)]) (.keep (kp [(4,0)] [] 0) .ret)) .skip)) (.trim [2,3] (.seq (sq [fa 17 8 2,ld 18 17,fa 19 8 3,ld 20 19,bn 21 .neq (.t 18) (.t 20)] [2,3,21] (.cond (.t 21) (.seq (.ops [mk 4 (kb false)]) (.keep (kp [(4,0)] [] 0) .ret)) .skip)) (.trim [2,3] (.seq (sq [fa 22 9 2,ld 23 22,fa 24 9 3,ld 25 24,bn 26 .neq (.t 23) (.t 25)] [2,3,26] (.cond (.t 26) (.seq (.ops [mk 4 (kb false)]) (.keep (kp [(4,0)] [] 0) .ret)) .skip)) (.trim [2,3] (.seq (sq [fa 27 10 2,ld 28 27,fa 29 10 3,ld 30 29,ca 31 34 [.t 28,.t 30],nt 32 31] [2,3,32] (.cond (.t 32) (.seq (.ops [mk 4 (kb false)]) (.keep (kp [(4,0)] [] 0) .ret)) .skip)) (.trim [2,3] (.seq (sq [fa 33 11 2,ld 34 33,fa 35 11 3,ld 36 35,ca 37 34 [.t 34,.t 36],nt 38 37] [38] (.cond (.t 38) (.seq (.ops [mk 4 (kb false)]) (.keep (kp [(4,0)] [] 0) .ret)) .skip)) (.trim [] (.seq (.ops [mk 4 (kb true)]) (.keep (kp [(4,0)] [] 0) .ret))))))))))))))),[.t 4]⟩
abbrev g115_S:=Sys.on [(32,g131_r),(33,g113_r),(34,g114_r)] []
def laws_eqPager (a_a:K1) (a_b:K1):Option (Bool):=(laws_eqDisk a_a.1 a_b.1).bind fun r1=>if ¬(r1 = true) then some false else (laws_eqSuper a_a.2.1 a_b.2.1).bind fun r2=>if ¬(r2 = true) then some false else if ¬(a_a.2.2.1 = a_b.2.2.1) then some false else if ¬(a_a.2.2.2.1 = a_b.2.2.2.1) then some false else (laws_eqPageS a_a.2.2.2.2.1 a_b.2.2.2.2.1).bind fun r3=>if ¬(r3 = true) then some false else (laws_eqPageS a_a.2.2.2.2.2 a_b.2.2.2.2.2).bind fun r4=>if ¬(r4 = true) then some false else some true
@[simp] def g115_O:Bool → TV × List Blk:=fun r=>((.bool r),[])
def g115_E (a:K1 × K1):List TV:=[(.agg [(.vs (rows a.1.1.1)),(.vs (rows a.1.1.2.1)),(.int .i64 a.1.1.2.2.1),(.bool a.1.1.2.2.2),(.int .i64 a.1.2.1.1),(.int .i64 a.1.2.1.2.1),(.int .i64 a.1.2.1.2.2.1),(.int .i64 a.1.2.1.2.2.2),(.int .i64 a.1.2.2.1),(.int .i64 a.1.2.2.2.1),(.vs (rows a.1.2.2.2.2.1)),(.vs (rows a.1.2.2.2.2.2))]),(.agg [(.vs (rows a.2.1.1)),(.vs (rows a.2.1.2.1)),(.int .i64 a.2.1.2.2.1),(.bool a.2.1.2.2.2),(.int .i64 a.2.2.1.1),(.int .i64 a.2.2.1.2.1),(.int .i64 a.2.2.1.2.2.1),(.int .i64 a.2.2.1.2.2.2),(.int .i64 a.2.2.2.1),(.int .i64 a.2.2.2.2.1),(.vs (rows a.2.2.2.2.2.1)),(.vs (rows a.2.2.2.2.2.2))])]
theorem g115_run (a_a:K1) (a_b:K1) :callFn (X g115_S) g115_tf (g115_E (a_a,a_b)) [] = (laws_eqPager a_a a_b).map g115_O:=by
  rw [callFn_eq]
  simp (maxSteps:=2000000) (maxDischargeDepth:=8) -implicitDefEqProofs [g115_tf,laws_eqPager,g115_E] <;> (try simp only [map_to_bind,some_elim,g115_O])
def g115_r:Rule:=RlO g115_E (fun a=>laws_eqPager a.1 a.2) g115_O
theorem g115_ok:RuleOk Tryz.prog 11 g115_r:=ok_rlo (S:=g115_S) (tf:=g115_tf) (SysOk.on ⟨g131_ok,g113_ok,g114_ok,trivial⟩ trivial) (trE_ok (ks:=[]) Tryz.func11 (by kernel_rfl)) fun a=>g115_run a.1 a.2
@[simp] theorem g115_app (y0 y1 y2 y3 y4 y5 y6 y7 y8 y9 y10 y11 y12 y13 y14 y15 y16 y17 y18 y19 y20 y21 y22 y23):g115_r [(.agg [(.vs (rows y0)),(.vs (rows y1)),(.int .i64 y2),(.bool y3),(.int .i64 y4),(.int .i64 y5),(.int .i64 y6),(.int .i64 y7),(.int .i64 y8),(.int .i64 y9),(.vs (rows y10)),(.vs (rows y11))]),(.agg [(.vs (rows y12)),(.vs (rows y13)),(.int .i64 y14),(.bool y15),(.int .i64 y16),(.int .i64 y17),(.int .i64 y18),(.int .i64 y19),(.int .i64 y20),(.int .i64 y21),(.vs (rows y22)),(.vs (rows y23))])] = (laws_eqPager (((y0,y1,y2,y3),(y4,y5,y6,y7),y8,y9,y10,y11)) (((y12,y13,y14,y15),(y16,y17,y18,y19),y20,y21,y22,y23))).map g115_O :=
  RlO_app (enc:=g115_E) (by intro a b h; simp [g115_E,Prod.ext_iff] at h ⊢; simp [h]) (((y0,y1,y2,y3),(y4,y5,y6,y7),y8,y9,y10,y11),((y12,y13,y14,y15),(y16,y17,y18,y19),y20,y21,y22,y23))
/-! laws.markText -/
def g93l1_cb:TC:=(.seq (sq [mo 6 0,bn 7 .gtr (.t 6) (ki 0)] [0,3,7] (.cond (.t 7) .skip (.keep (kp [(3,0)] [] 0) (.exit 0)))) (.trim [0,3] (.block 1 (sq [mo 8 0,bn 9 .rem (.t 8) (ki 10),bn 10 .add (ki 48) (.t 9),oo 11 (.conv (.toInt .u8) (.t 10)),oo 12 (.bslice [(.int .u8 0)] 1 [(0,(.t 11))]),oo 13 (.conv .toStr (.t 12)),mo 14 3,oo 15 (.bin .str .add (.t 13) (.t 14)),mo 3 15] [0,3] (.after (.ops [mo 16 0,bn 17 .quo (.t 16) (ki 10),mo 0 17]) (kp [(0,0),(3,0)] [] 0))))))
def g93l1_c:TC:=.loop [0,3] g93l1_cb
def g93_tf:TFn:=⟨(sq [mk 2 (.c (.str []))] [0] (.seq (sq [mo 4 0,bn 5 .leq (.t 4) (ki 0)] [0,5] (.cond (.t 5) (.seq (.ops [mk 2 (.c (.str [109,48]))]) (.keep (kp [(2,0)] [] 0) .ret)) .skip)) (.trim [0] (sq [mk 3 (.c (.str []))] [0,3] (.seq (.block 0 (.keep (kp [(0,0),(3,0)] [] 0) g93l1_c)) (.trim [3] (.seq (.ops [mo 18 3,oo 19 (.bin .str .add (.c (.str [109])) (.t 18)),mo 2 19]) (.keep (kp [(2,0)] [] 0) .ret)))))))),[.t 2]⟩
abbrev g93_S:=Sys.on [] []
@[reducible,simp] def g93l1_F:Str → Out:=(fun t=>(.ext 0,[(3,(.str t))],[]))
def laws_markText_l1_b (v1:Int) (v2:Str):Option ((Int × Str) ⊕ (Str)):=if v1 > 0 then if ((((lit [(⟨UInt8.ofNat ((IntKind.u8.wrap ((IntKind.i64.wrap (48 + (Int.tmod v1 10)))))).toNat⟩:Bt)]:List Bt)).map Bt.v)).length + v2.length ≤ 9223372036854775807 then some (.inl ((IntKind.i64.wrap (Int.tdiv v1 10)),((((lit [(⟨UInt8.ofNat ((IntKind.u8.wrap ((IntKind.i64.wrap (48 + (Int.tmod v1 10)))))).toNat⟩:Bt)]:List Bt)).map Bt.v) ++ v2))) else none else some (.inr v2)
theorem g93l1_b_eq  (v1:Int) (v2:Str):X g93_S g93l1_cb (keepEnv [0,3] [(0,(.int .i64 v1)),(3,(.str v2))]) [] = (laws_markText_l1_b v1 v2).map (Sum.elim (fun s=>(TX.nrm,[(0,(.int .i64 s.1)),(3,(.str s.2))],[])) g93l1_F):=by
  simp (maxSteps:=2000000) (maxDischargeDepth:=8) -implicitDefEqProofs [g93l1_cb,laws_markText_l1_b,bslV_lit (α:=Bt) (zs:=[(.int .u8 0)])] <;> (try simp only [map_to_bind,some_elim,g93l1_F])
def laws_markText_l1  (s:Int × Str):Option (Str):=loopO (fun s=>laws_markText_l1_b  s.1 s.2) s
@[simp] theorem g93l1_eq (y0 y1):X g93_S g93l1_c [(0,(.int .i64 y0)),(3,(.str y1))] [] = (laws_markText_l1  (y0,y1)).map g93l1_F:=by
  exact loop_X _ _ _ _ (by intro r; first | (simp; done) | (rcases r with r | r <;> simp; done) | (rcases r with r | r | r <;> simp; done) | (rcases r with r | r | r | r <;> simp)) (fun s=>g93l1_b_eq   s.1 s.2) (y0,y1)
def laws_markText (a_k:Int):Option (Str):=if a_k ≤ 0 then some (([109,48]:Str)) else (laws_markText_l1 ((a_k,([]:Str)))).bind fun r3=>if (([109]:Str)).length + r3.length ≤ 9223372036854775807 then some ((([109]:Str) ++ r3)) else none
@[simp] def g93_O:Str → TV × List Blk:=fun r=>((.str r),[])
def g93_E (a:Int):List TV:=[(.int .i64 a)]
theorem g93_run (a_k:Int) :callFn (X g93_S) g93_tf (g93_E a_k) [] = (laws_markText a_k).map g93_O:=by
  rw [callFn_eq]
  simp (maxSteps:=2000000) (maxDischargeDepth:=8) -implicitDefEqProofs [g93_tf,laws_markText,g93_E,bslV_lit (α:=Bt) (zs:=[(.int .u8 0)])] <;> (try simp only [map_to_bind,some_elim,g93_O])
def g93_r:Rule:=RlO g93_E (fun a=>laws_markText a) g93_O
theorem g93_ok:RuleOk Tryz.prog 84 g93_r:=ok_rlo (S:=g93_S) (tf:=g93_tf) (SysOk.on trivial trivial) (trE_ok (ks:=[[0,3]]) Tryz.func84 (by kernel_rfl)) fun a=>g93_run a
@[simp] theorem g93_app (y0):g93_r [(.int .i64 y0)] = (laws_markText y0).map g93_O :=
  RlO_app (enc:=g93_E) (by intro a b h; simp [g93_E,Prod.ext_iff] at h ⊢; simp [h]) y0
/-! laws.markStringS -/
def g33l1_cb:TC:=(.seq (sq [mo 6 5,mo 7 0,le 8 7,bn 9 .lss (.t 6) (.t 8)] [0,1,5,9] (.cond (.t 9) .skip (.keep (kp [(1,0)] [(0,1)] 1) (.exit 0)))) (.trim [0,1,5] (.seq (.block 1 (sq [mo 12 0,mo 13 5,mo 14 1,ca 15 84 [.t 14],ia 16 1 12 13,⟨none,none,(.store 1 (.t 16) (.t 15))⟩] [0,1,5] (.ops [mo 17 1,bn 18 .add (.t 17) (ki 1),mo 1 18]))) (.trim [0,1,5] (.after (.ops [mo 10 5,bn 11 .add (.t 10) (ki 1),mo 5 11]) (kp [(0,0),(1,0),(5,0)] [(0,1)] 1))))))
def g33l1_c:TC:=.loop [0,1,5] g33l1_cb
def g33_tf:TFn:=⟨(sq [mk 4 (ki 0)] [0,1] (.seq (sq [mk 5 (ki 0)] [0,1,5] (.block 0 (.keep (kp [(0,0),(1,0),(5,0)] [(0,1)] 1) g33l1_c))) (.trim [1] (.seq (.ops [mo 19 1,mo 4 19]) (.keep (kp [(4,0)] [(0,1)] 1) .ret))))),[.t 4]⟩
abbrev g33_S:=Sys.on [(84,g93_r)] []
@[reducible,simp] def g33l1_F:(List Str × Int) → Out:=(fun t=>(.ext 0,[(1,(.int .i64 t.2))],[(ob 1 t.1)]))
def laws_markStringS_o35_l1_b (v1:List Str) (v2:Int) (v3:Int):Option ((List Str × Int × Int) ⊕ (List Str × Int)):=if v3 < ((v1.length:Nat):Int) then (laws_markText v2).bind fun r4=>if 0 ≤ v3 ∧ v3 < ((v1.length:Nat):Int) then (v1[(v3).toNat]?).bind fun x5=>some (.inl ((v1.set (v3).toNat r4),(IntKind.i64.wrap (v2 + 1)),(IntKind.i64.wrap (v3 + 1)))) else none else some (.inr (v1,v2))
theorem g33l1_b_eq  (v1:List Str) (v2:Int) (v3:Int):X g33_S g33l1_cb (keepEnv [0,1,5] [(0,(ow 0 v1.length)),(1,(.int .i64 v2)),(5,(.int .i64 v3))]) [(ob 1 v1)] = (laws_markStringS_o35_l1_b v1 v2 v3).map (Sum.elim (fun s=>(TX.nrm,[(0,(ow 0 s.1.length)),(1,(.int .i64 s.2.1)),(5,(.int .i64 s.2.2))],[(ob 1 s.1)])) g33l1_F):=by
  simp (maxSteps:=2000000) (maxDischargeDepth:=8) -implicitDefEqProofs [g33l1_cb,laws_markStringS_o35_l1_b] <;> (try simp only [map_to_bind,some_elim,g33l1_F])
def laws_markStringS_o35_l1  (s:List Str × Int × Int):Option (List Str × Int):=loopO (fun s=>laws_markStringS_o35_l1_b  s.1 s.2.1 s.2.2) s
@[simp] theorem g33l1_eq (y0:List Str)(y1 y2){n1:Nat}(h1:n1 = y0.length):X g33_S g33l1_c [(0,(ow 0 n1)),(1,(.int .i64 y1)),(5,(.int .i64 y2))] [(ob 1 y0)] = (laws_markStringS_o35_l1  (y0,y1,y2)).map g33l1_F:=by
  subst h1
  exact loop_X _ _ _ _ (by intro r; first | (simp; done) | (rcases r with r | r <;> simp; done) | (rcases r with r | r | r <;> simp; done) | (rcases r with r | r | r | r <;> simp)) (fun s=>g33l1_b_eq   s.1 s.2.1 s.2.2) (y0,y1,y2)
def laws_markStringS_o35 (a1:List Str) (a2:Int):Option (List Str × Int):=(laws_markStringS_o35_l1 ((a1,a2,0))).bind fun r6=>some (r6.1,r6.2)
@[simp] def g33_O:(List Str × Int) → TV × List Blk:=fun r=>((.int .i64 r.2),[(ob 1 r.1)])
abbrev g33_T:=List Str × Int
def g33_E (a:g33_T):List TV:=[(ow 0 a.1.length),(.int .i64 a.2)]
def g33_B (a:g33_T):List Blk:=[(ob 1 a.1)]
theorem g33_run (a1:List Str) (a2:Int) :callFn (X g33_S) g33_tf (g33_E (a1,a2)) (g33_B (a1,a2)) = (laws_markStringS_o35 a1 a2).map g33_O:=by
  rw [callFn_eq]
  simp (maxSteps:=2000000) (maxDischargeDepth:=8) -implicitDefEqProofs [g33_tf,laws_markStringS_o35,g33_E,g33_B] <;> (try simp only [map_to_bind,some_elim,g33_O])
def g33_r:MRule:=RmO g33_E g33_B (fun a=>(laws_markStringS_o35 a.1 a.2).bind fun r=>if r.1.length = a.1.length then some ((fixLen a.1 r.1),r.2) else none) g33_O
theorem g33_ok0:MRuleOk Tryz.prog 82 1 (RmO g33_E g33_B (fun a=>laws_markStringS_o35 a.1 a.2) g33_O):=ok_rmo (S:=g33_S) (tf:=g33_tf) (SysOk.on ⟨g93_ok,trivial⟩ trivial) (trE_ok (ks:=[[0,1,5]]) Tryz.func82 (by kernel_rfl)) (by rfl) (fun _=>by simp [g33_B]) (fun _=>by simp) fun a=>g33_run a.1 a.2
theorem g33_ok:MRuleOk Tryz.prog 82 1 g33_r:=g33_ok0.weak fun a r hr=>by
  simp only [Option.bind_eq_some_iff] at hr
  obtain ⟨x,h1,h2⟩:=hr
  split at h2
  · rename_i hc
    simp only [Option.some.injEq] at h2
    rw [h1,← h2]
    simp [fixLen,hc]
  · cases h2
@[simp] theorem g33_app (y0:List Str)(y1){n1:Nat}(h1:n1 = y0.length):g33_r [(ow 0 n1),(.int .i64 y1)] [(ob 1 y0)] = ((laws_markStringS_o35 y0 y1).bind fun r=>if r.1.length = y0.length then some ((fixLen y0 r.1),r.2) else none).map g33_O:=by
  subst h1
  exact RmO_app (enc:=g33_E) (encB:=g33_B) (by intro a b h h2; simp [g33_E,g33_B,Prod.ext_iff] at h h2 ⊢; simp [h,h2]) (y0,y1)
/-! laws.markPutS -/
def g49l1_cb:TC:=(.seq (sq [mo 6 5,mo 7 0,le 8 7,bn 9 .lss (.t 6) (.t 8)] [0,1,5,9] (.cond (.t 9) .skip (.keep (kp [(1,0)] [(0,1)] 1) (.exit 0)))) (.trim [0,1,5] (.seq (.block 1 (sq [mo 12 0,mo 13 5,mo 14 1,ia 15 2 12 13,fa 16 0 15,⟨none,none,(.store 1 (.t 16) (.t 14))⟩] [0,1,5] (sq [mo 17 1,bn 18 .add (.t 17) (ki 1),mo 1 18] [0,1,5] (sq [mo 19 0,mo 20 5,mo 21 1,ca 22 84 [.t 21],ia 23 2 19 20,fa 24 1 23,⟨none,none,(.store 1 (.t 24) (.t 22))⟩] [0,1,5] (.ops [mo 25 1,bn 26 .add (.t 25) (ki 1),mo 1 26]))))) (.trim [0,1,5] (.after (.ops [mo 10 5,bn 11 .add (.t 10) (ki 1),mo 5 11]) (kp [(0,0),(1,0),(5,0)] [(0,1)] 1))))))
def g49l1_c:TC:=.loop [0,1,5] g49l1_cb
def g49_tf:TFn:=⟨(sq [mk 4 (ki 0)] [0,1] (.seq (sq [mk 5 (ki 0)] [0,1,5] (.block 0 (.keep (kp [(0,0),(1,0),(5,0)] [(0,1)] 1) g49l1_c))) (.trim [1] (.seq (.ops [mo 27 1,mo 4 27]) (.keep (kp [(4,0)] [(0,1)] 1) .ret))))),[.t 4]⟩
abbrev g49_S:=Sys.on [(84,g93_r)] []
@[reducible,simp] def g49l1_F:((List (Int × Str)) × Int) → Out:=(fun t=>(.ext 0,[(1,(.int .i64 t.2))],[(ob 2 t.1)]))
def laws_markPutS_o2a_l1_b (v1:List (Int × Str)) (v2:Int) (v3:Int):Option (((List (Int × Str)) × Int × Int) ⊕ ((List (Int × Str)) × Int)):=if v3 < ((v1.length:Nat):Int) then if 0 ≤ v3 ∧ v3 < ((v1.length:Nat):Int) then (v1[(v3).toNat]?).bind fun x4=>(laws_markText ((IntKind.i64.wrap (v2 + 1)))).bind fun r5=>if 0 ≤ v3 ∧ v3 < ((v1.length:Nat):Int) then (((v1.set (v3).toNat (v2,x4.2)))[(v3).toNat]?).bind fun x6=>some (.inl ((((v1.set (v3).toNat (v2,x4.2))).set (v3).toNat (x6.1,r5)),(IntKind.i64.wrap ((IntKind.i64.wrap (v2 + 1)) + 1)),(IntKind.i64.wrap (v3 + 1)))) else none else none else some (.inr (v1,v2))
theorem g49l1_b_eq  (v1:List (Int × Str)) (v2:Int) (v3:Int):X g49_S g49l1_cb (keepEnv [0,1,5] [(0,(ow 0 v1.length)),(1,(.int .i64 v2)),(5,(.int .i64 v3))]) [(ob 2 v1)] = (laws_markPutS_o2a_l1_b v1 v2 v3).map (Sum.elim (fun s=>(TX.nrm,[(0,(ow 0 s.1.length)),(1,(.int .i64 s.2.1)),(5,(.int .i64 s.2.2))],[(ob 2 s.1)])) g49l1_F):=by
  simp (maxSteps:=2000000) (maxDischargeDepth:=8) -implicitDefEqProofs [g49l1_cb,laws_markPutS_o2a_l1_b] <;> (try simp only [map_to_bind,some_elim,g49l1_F])
def laws_markPutS_o2a_l1  (s:(List (Int × Str)) × Int × Int):Option ((List (Int × Str)) × Int):=loopO (fun s=>laws_markPutS_o2a_l1_b  s.1 s.2.1 s.2.2) s
@[simp] theorem g49l1_eq (y0:List (Int × Str))(y1 y2){n1:Nat}(h1:n1 = y0.length):X g49_S g49l1_c [(0,(ow 0 n1)),(1,(.int .i64 y1)),(5,(.int .i64 y2))] [(ob 2 y0)] = (laws_markPutS_o2a_l1  (y0,y1,y2)).map g49l1_F:=by
  subst h1
  exact loop_X _ _ _ _ (by intro r; first | (simp; done) | (rcases r with r | r <;> simp; done) | (rcases r with r | r | r <;> simp; done) | (rcases r with r | r | r | r <;> simp)) (fun s=>g49l1_b_eq   s.1 s.2.1 s.2.2) (y0,y1,y2)
def laws_markPutS_o2a (a1:List (Int × Str)) (a2:Int):Option ((List (Int × Str)) × Int):=(laws_markPutS_o2a_l1 ((a1,a2,0))).bind fun r7=>some (r7.1,r7.2)
@[simp] def g49_O:((List (Int × Str)) × Int) → TV × List Blk:=fun r=>((.int .i64 r.2),[(ob 2 r.1)])
abbrev g49_T:=(List (Int × Str)) × Int
def g49_E (a:g49_T):List TV:=[(ow 0 a.1.length),(.int .i64 a.2)]
def g49_B (a:g49_T):List Blk:=[(ob 2 a.1)]
theorem g49_run (a1:List (Int × Str)) (a2:Int) :callFn (X g49_S) g49_tf (g49_E (a1,a2)) (g49_B (a1,a2)) = (laws_markPutS_o2a a1 a2).map g49_O:=by
  rw [callFn_eq]
  simp (maxSteps:=2000000) (maxDischargeDepth:=8) -implicitDefEqProofs [g49_tf,laws_markPutS_o2a,g49_E,g49_B] <;> (try simp only [map_to_bind,some_elim,g49_O])
def g49_r:MRule:=RmO g49_E g49_B (fun a=>(laws_markPutS_o2a a.1 a.2).bind fun r=>if r.1.length = a.1.length then some ((fixLen a.1 r.1),r.2) else none) g49_O
theorem g49_ok0:MRuleOk Tryz.prog 83 1 (RmO g49_E g49_B (fun a=>laws_markPutS_o2a a.1 a.2) g49_O):=ok_rmo (S:=g49_S) (tf:=g49_tf) (SysOk.on ⟨g93_ok,trivial⟩ trivial) (trE_ok (ks:=[[0,1,5]]) Tryz.func83 (by kernel_rfl)) (by rfl) (fun _=>by simp [g49_B]) (fun _=>by simp) fun a=>g49_run a.1 a.2
theorem g49_ok:MRuleOk Tryz.prog 83 1 g49_r:=g49_ok0.weak fun a r hr=>by
  simp only [Option.bind_eq_some_iff] at hr
  obtain ⟨x,h1,h2⟩:=hr
  split at h2
  · rename_i hc
    simp only [Option.some.injEq] at h2
    rw [h1,← h2]
    simp [fixLen,hc]
  · cases h2
@[simp] theorem g49_app (y0:List (Int × Str))(y1){n1:Nat}(h1:n1 = y0.length):g49_r [(ow 0 n1),(.int .i64 y1)] [(ob 2 y0)] = ((laws_markPutS_o2a y0 y1).bind fun r=>if r.1.length = y0.length then some ((fixLen y0 r.1),r.2) else none).map g49_O:=by
  subst h1
  exact RmO_app (enc:=g49_E) (encB:=g49_B) (by intro a b h h2; simp [g49_E,g49_B,Prod.ext_iff] at h h2 ⊢; simp [h,h2]) (y0,y1)
/-! laws.markDisk -/
def g50_tf:TFn:=⟨(sq [bx 2 0,mk 4 (ki 0)] [1,2] (sq [fa 5 0 2,ld 6 5,mo 7 1,oo 8 (.callM 82 0 [0] [.t 6,.t 7]),mo 1 8] [1,2] (sq [fa 9 1 2,ld 10 9,mo 11 1,oo 12 (.callM 83 0 [1] [.t 10,.t 11]),mo 1 12] [1] (.seq (.ops [mo 13 1,mo 4 13]) (.keep (kp [(4,0)] [(0,1),(1,1)] 2) .ret))))),[.t 4]⟩
abbrev g50_S:=Sys.on [] [((82,0),(1,g33_r)),((83,0),(1,g49_r))]
def laws_markDisk_o3e (a1:List Str) (a2:List (Int × Str)) (a3:Int) (a4:Bool) (a5:Int):Option (List Str × (List (Int × Str)) × Int):=(laws_markStringS_o35 a1 a5).bind fun r1=>if r1.1.length = a1.length then (laws_markPutS_o2a a2 r1.2).bind fun r2=>if r2.1.length = a2.length then some ((fixLen a1 r1.1),(fixLen a2 r2.1),r2.2) else none else none
@[simp] def g50_O:(List Str × (List (Int × Str)) × Int) → TV × List Blk:=fun r=>((.int .i64 r.2.2),[(ob 1 r.1),(ob 2 r.2.1)])
abbrev g50_T:=List Str × (List (Int × Str)) × Int × Bool × Int
def g50_E (a:g50_T):List TV:=[(.agg [(ow 0 a.1.length),(ow 1 a.2.1.length),(.int .i64 a.2.2.1),(.bool a.2.2.2.1)]),(.int .i64 a.2.2.2.2)]
def g50_B (a:g50_T):List Blk:=[(ob 1 a.1),(ob 2 a.2.1)]
theorem g50_run (a1:List Str) (a2:List (Int × Str)) (a3:Int) (a4:Bool) (a5:Int) :callFn (X g50_S) g50_tf (g50_E (a1,a2,a3,a4,a5)) (g50_B (a1,a2,a3,a4,a5)) = (laws_markDisk_o3e a1 a2 a3 a4 a5).map g50_O:=by
  rw [callFn_eq]
  simp (maxSteps:=2000000) (maxDischargeDepth:=8) -implicitDefEqProofs [g50_tf,laws_markDisk_o3e,g50_E,g50_B] <;> (try simp only [map_to_bind,some_elim,g50_O])
def g50_r:MRule:=RmO g50_E g50_B (fun a=>(laws_markDisk_o3e a.1 a.2.1 a.2.2.1 a.2.2.2.1 a.2.2.2.2).bind fun r=>if r.1.length = a.1.length ∧ r.2.1.length = a.2.1.length then some ((fixLen a.1 r.1),(fixLen a.2.1 r.2.1),r.2.2) else none) g50_O
theorem g50_ok0:MRuleOk Tryz.prog 35 2 (RmO g50_E g50_B (fun a=>laws_markDisk_o3e a.1 a.2.1 a.2.2.1 a.2.2.2.1 a.2.2.2.2) g50_O):=ok_rmo (S:=g50_S) (tf:=g50_tf) (SysOk.on trivial ⟨g33_ok,g49_ok,trivial⟩) (trE_ok (ks:=[]) Tryz.func35 (by kernel_rfl)) (by rfl) (fun _=>by simp [g50_B]) (fun _=>by simp) fun a=>g50_run a.1 a.2.1 a.2.2.1 a.2.2.2.1 a.2.2.2.2
theorem g50_ok:MRuleOk Tryz.prog 35 2 g50_r:=g50_ok0.weak fun a r hr=>by
  simp only [Option.bind_eq_some_iff] at hr
  obtain ⟨x,h1,h2⟩:=hr
  split at h2
  · rename_i hc
    simp only [Option.some.injEq] at h2
    rw [h1,← h2]
    simp [fixLen,hc]
  · cases h2
@[simp] theorem g50_app (y0:List Str)(y1:List (Int × Str))(y2 y3 y4){n1:Nat}(h1:n1 = y0.length){n2:Nat}(h2:n2 = y1.length):g50_r [(.agg [(ow 0 n1),(ow 1 n2),(.int .i64 y2),(.bool y3)]),(.int .i64 y4)] [(ob 1 y0),(ob 2 y1)] = ((laws_markDisk_o3e y0 y1 y2 y3 y4).bind fun r=>if r.1.length = y0.length ∧ r.2.1.length = y1.length then some ((fixLen y0 r.1),(fixLen y1 r.2.1),r.2.2) else none).map g50_O:=by
  subst h1 h2
  exact RmO_app (enc:=g50_E) (encB:=g50_B) (by intro a b h h2; simp [g50_E,g50_B,Prod.ext_iff] at h h2 ⊢; simp [h,h2]) (y0,y1,y2,y3,y4)
/-! laws.markPageS -/
def g38l1_cb:TC:=(.seq (sq [mo 6 5,mo 7 0,le 8 7,bn 9 .lss (.t 6) (.t 8)] [0,1,5,9] (.cond (.t 9) .skip (.keep (kp [(1,0)] [(0,1)] 1) (.exit 0)))) (.trim [0,1,5] (.seq (.block 1 (sq [mo 12 0,mo 13 5,mo 14 1,ia 15 2 12 13,fa 16 0 15,⟨none,none,(.store 1 (.t 16) (.t 14))⟩] [0,1,5] (sq [mo 17 1,bn 18 .add (.t 17) (ki 1),mo 1 18] [0,1,5] (sq [mo 19 0,mo 20 5,mo 21 1,ca 22 84 [.t 21],ia 23 2 19 20,fa 24 1 23,⟨none,none,(.store 1 (.t 24) (.t 22))⟩] [0,1,5] (.ops [mo 25 1,bn 26 .add (.t 25) (ki 1),mo 1 26]))))) (.trim [0,1,5] (.after (.ops [mo 10 5,bn 11 .add (.t 10) (ki 1),mo 5 11]) (kp [(0,0),(1,0),(5,0)] [(0,1)] 1))))))
def g38l1_c:TC:=.loop [0,1,5] g38l1_cb
def g38_tf:TFn:=⟨(sq [mk 4 (ki 0)] [0,1] (.seq (sq [mk 5 (ki 0)] [0,1,5] (.block 0 (.keep (kp [(0,0),(1,0),(5,0)] [(0,1)] 1) g38l1_c))) (.trim [1] (.seq (.ops [mo 27 1,mo 4 27]) (.keep (kp [(4,0)] [(0,1)] 1) .ret))))),[.t 4]⟩
abbrev g38_S:=Sys.on [(84,g93_r)] []
@[reducible,simp] def g38l1_F:((List (Int × Str)) × Int) → Out:=(fun t=>(.ext 0,[(1,(.int .i64 t.2))],[(ob 2 t.1)]))
def laws_markPageS_o2a_l1_b (v1:List (Int × Str)) (v2:Int) (v3:Int):Option (((List (Int × Str)) × Int × Int) ⊕ ((List (Int × Str)) × Int)):=if v3 < ((v1.length:Nat):Int) then if 0 ≤ v3 ∧ v3 < ((v1.length:Nat):Int) then (v1[(v3).toNat]?).bind fun x4=>(laws_markText ((IntKind.i64.wrap (v2 + 1)))).bind fun r5=>if 0 ≤ v3 ∧ v3 < ((v1.length:Nat):Int) then (((v1.set (v3).toNat (v2,x4.2)))[(v3).toNat]?).bind fun x6=>some (.inl ((((v1.set (v3).toNat (v2,x4.2))).set (v3).toNat (x6.1,r5)),(IntKind.i64.wrap ((IntKind.i64.wrap (v2 + 1)) + 1)),(IntKind.i64.wrap (v3 + 1)))) else none else none else some (.inr (v1,v2))
theorem g38l1_b_eq  (v1:List (Int × Str)) (v2:Int) (v3:Int):X g38_S g38l1_cb (keepEnv [0,1,5] [(0,(ow 0 v1.length)),(1,(.int .i64 v2)),(5,(.int .i64 v3))]) [(ob 2 v1)] = (laws_markPageS_o2a_l1_b v1 v2 v3).map (Sum.elim (fun s=>(TX.nrm,[(0,(ow 0 s.1.length)),(1,(.int .i64 s.2.1)),(5,(.int .i64 s.2.2))],[(ob 2 s.1)])) g38l1_F):=by
  simp (maxSteps:=2000000) (maxDischargeDepth:=8) -implicitDefEqProofs [g38l1_cb,laws_markPageS_o2a_l1_b] <;> (try simp only [map_to_bind,some_elim,g38l1_F])
def laws_markPageS_o2a_l1  (s:(List (Int × Str)) × Int × Int):Option ((List (Int × Str)) × Int):=loopO (fun s=>laws_markPageS_o2a_l1_b  s.1 s.2.1 s.2.2) s
@[simp] theorem g38l1_eq (y0:List (Int × Str))(y1 y2){n1:Nat}(h1:n1 = y0.length):X g38_S g38l1_c [(0,(ow 0 n1)),(1,(.int .i64 y1)),(5,(.int .i64 y2))] [(ob 2 y0)] = (laws_markPageS_o2a_l1  (y0,y1,y2)).map g38l1_F:=by
  subst h1
  exact loop_X _ _ _ _ (by intro r; first | (simp; done) | (rcases r with r | r <;> simp; done) | (rcases r with r | r | r <;> simp; done) | (rcases r with r | r | r | r <;> simp)) (fun s=>g38l1_b_eq   s.1 s.2.1 s.2.2) (y0,y1,y2)
def laws_markPageS_o2a (a1:List (Int × Str)) (a2:Int):Option ((List (Int × Str)) × Int):=(laws_markPageS_o2a_l1 ((a1,a2,0))).bind fun r7=>some (r7.1,r7.2)
@[simp] def g38_O:((List (Int × Str)) × Int) → TV × List Blk:=fun r=>((.int .i64 r.2),[(ob 2 r.1)])
abbrev g38_T:=(List (Int × Str)) × Int
def g38_E (a:g38_T):List TV:=[(ow 0 a.1.length),(.int .i64 a.2)]
def g38_B (a:g38_T):List Blk:=[(ob 2 a.1)]
theorem g38_run (a1:List (Int × Str)) (a2:Int) :callFn (X g38_S) g38_tf (g38_E (a1,a2)) (g38_B (a1,a2)) = (laws_markPageS_o2a a1 a2).map g38_O:=by
  rw [callFn_eq]
  simp (maxSteps:=2000000) (maxDischargeDepth:=8) -implicitDefEqProofs [g38_tf,laws_markPageS_o2a,g38_E,g38_B] <;> (try simp only [map_to_bind,some_elim,g38_O])
def g38_r:MRule:=RmO g38_E g38_B (fun a=>(laws_markPageS_o2a a.1 a.2).bind fun r=>if r.1.length = a.1.length then some ((fixLen a.1 r.1),r.2) else none) g38_O
theorem g38_ok0:MRuleOk Tryz.prog 36 1 (RmO g38_E g38_B (fun a=>laws_markPageS_o2a a.1 a.2) g38_O):=ok_rmo (S:=g38_S) (tf:=g38_tf) (SysOk.on ⟨g93_ok,trivial⟩ trivial) (trE_ok (ks:=[[0,1,5]]) Tryz.func36 (by kernel_rfl)) (by rfl) (fun _=>by simp [g38_B]) (fun _=>by simp) fun a=>g38_run a.1 a.2
theorem g38_ok:MRuleOk Tryz.prog 36 1 g38_r:=g38_ok0.weak fun a r hr=>by
  simp only [Option.bind_eq_some_iff] at hr
  obtain ⟨x,h1,h2⟩:=hr
  split at h2
  · rename_i hc
    simp only [Option.some.injEq] at h2
    rw [h1,← h2]
    simp [fixLen,hc]
  · cases h2
@[simp] theorem g38_app (y0:List (Int × Str))(y1){n1:Nat}(h1:n1 = y0.length):g38_r [(ow 0 n1),(.int .i64 y1)] [(ob 2 y0)] = ((laws_markPageS_o2a y0 y1).bind fun r=>if r.1.length = y0.length then some ((fixLen y0 r.1),r.2) else none).map g38_O:=by
  subst h1
  exact RmO_app (enc:=g38_E) (encB:=g38_B) (by intro a b h h2; simp [g38_E,g38_B,Prod.ext_iff] at h h2 ⊢; simp [h,h2]) (y0,y1)
/-! laws.markPager -/
def g39_tf:TFn:=⟨(sq [bx 2 0,mk 4 (ki 0)] [1,2] (sq [fa 5 0 2,ln 6 4 5,mo 7 1,oo 8 (.callM 35 0 [0,1] [.t 6,.t 7]),mo 1 8] [1,2] (sq [fa 9 10 2,ld 10 9,mo 11 1,oo 12 (.callM 36 0 [2] [.t 10,.t 11]),mo 1 12] [1,2] (sq [fa 13 11 2,ld 14 13,mo 15 1,oo 16 (.callM 36 0 [3] [.t 14,.t 15]),mo 1 16] [1] (.seq (.ops [mo 17 1,mo 4 17]) (.keep (kp [(4,0)] [(0,1),(1,1),(2,1),(3,1)] 4) .ret)))))),[.t 4]⟩
abbrev g39_S:=Sys.on [] [((35,0),(2,g50_r)),((36,0),(1,g38_r))]
def laws_markPager_o71 (a1:List Str) (a2:List (Int × Str)) (a3:Int) (a4:Bool) (a5:Int) (a6:Int) (a7:Int) (a8:Int) (a9:Int) (a10:Int) (a11:List (Int × Str)) (a12:List (Int × Str)) (a13:Int):Option (List Str × (List (Int × Str)) × (List (Int × Str)) × (List (Int × Str)) × Int):=(laws_markDisk_o3e a1 a2 a3 a4 a13).bind fun r1=>if r1.1.length = a1.length ∧ r1.2.1.length = a2.length then (laws_markPageS_o2a a11 r1.2.2).bind fun r2=>if r2.1.length = a11.length then (laws_markPageS_o2a a12 r2.2).bind fun r3=>if r3.1.length = a12.length then some ((fixLen a1 r1.1),(fixLen a2 r1.2.1),(fixLen a11 r2.1),(fixLen a12 r3.1),r3.2) else none else none else none
@[simp] def g39_O:(List Str × (List (Int × Str)) × (List (Int × Str)) × (List (Int × Str)) × Int) → TV × List Blk:=fun r=>((.int .i64 r.2.2.2.2),[(ob 1 r.1),(ob 2 r.2.1),(ob 2 r.2.2.1),(ob 2 r.2.2.2.1)])
abbrev g39_T:=List Str × (List (Int × Str)) × Int × Bool × Int × Int × Int × Int × Int × Int × (List (Int × Str)) × (List (Int × Str)) × Int
def g39_E (a:g39_T):List TV:=[(.agg [(ow 0 a.1.length),(ow 1 a.2.1.length),(.int .i64 a.2.2.1),(.bool a.2.2.2.1),(.int .i64 a.2.2.2.2.1),(.int .i64 a.2.2.2.2.2.1),(.int .i64 a.2.2.2.2.2.2.1),(.int .i64 a.2.2.2.2.2.2.2.1),(.int .i64 a.2.2.2.2.2.2.2.2.1),(.int .i64 a.2.2.2.2.2.2.2.2.2.1),(ow 2 a.2.2.2.2.2.2.2.2.2.2.1.length),(ow 3 a.2.2.2.2.2.2.2.2.2.2.2.1.length)]),(.int .i64 a.2.2.2.2.2.2.2.2.2.2.2.2)]
def g39_B (a:g39_T):List Blk:=[(ob 1 a.1),(ob 2 a.2.1),(ob 2 a.2.2.2.2.2.2.2.2.2.2.1),(ob 2 a.2.2.2.2.2.2.2.2.2.2.2.1)]
theorem g39_run (a1:List Str) (a2:List (Int × Str)) (a3:Int) (a4:Bool) (a5:Int) (a6:Int) (a7:Int) (a8:Int) (a9:Int) (a10:Int) (a11:List (Int × Str)) (a12:List (Int × Str)) (a13:Int) :callFn (X g39_S) g39_tf (g39_E (a1,a2,a3,a4,a5,a6,a7,a8,a9,a10,a11,a12,a13)) (g39_B (a1,a2,a3,a4,a5,a6,a7,a8,a9,a10,a11,a12,a13)) = (laws_markPager_o71 a1 a2 a3 a4 a5 a6 a7 a8 a9 a10 a11 a12 a13).map g39_O:=by
  rw [callFn_eq]
  simp (maxSteps:=2000000) (maxDischargeDepth:=8) -implicitDefEqProofs [g39_tf,laws_markPager_o71,g39_E,g39_B] <;> (try simp only [map_to_bind,some_elim,g39_O])
def g39_r:MRule:=RmO g39_E g39_B (fun a=>(laws_markPager_o71 a.1 a.2.1 a.2.2.1 a.2.2.2.1 a.2.2.2.2.1 a.2.2.2.2.2.1 a.2.2.2.2.2.2.1 a.2.2.2.2.2.2.2.1 a.2.2.2.2.2.2.2.2.1 a.2.2.2.2.2.2.2.2.2.1 a.2.2.2.2.2.2.2.2.2.2.1 a.2.2.2.2.2.2.2.2.2.2.2.1 a.2.2.2.2.2.2.2.2.2.2.2.2).bind fun r=>if r.1.length = a.1.length ∧ r.2.1.length = a.2.1.length ∧ r.2.2.1.length = a.2.2.2.2.2.2.2.2.2.2.1.length ∧ r.2.2.2.1.length = a.2.2.2.2.2.2.2.2.2.2.2.1.length then some ((fixLen a.1 r.1),(fixLen a.2.1 r.2.1),(fixLen a.2.2.2.2.2.2.2.2.2.2.1 r.2.2.1),(fixLen a.2.2.2.2.2.2.2.2.2.2.2.1 r.2.2.2.1),r.2.2.2.2) else none) g39_O
theorem g39_ok0:MRuleOk Tryz.prog 12 4 (RmO g39_E g39_B (fun a=>laws_markPager_o71 a.1 a.2.1 a.2.2.1 a.2.2.2.1 a.2.2.2.2.1 a.2.2.2.2.2.1 a.2.2.2.2.2.2.1 a.2.2.2.2.2.2.2.1 a.2.2.2.2.2.2.2.2.1 a.2.2.2.2.2.2.2.2.2.1 a.2.2.2.2.2.2.2.2.2.2.1 a.2.2.2.2.2.2.2.2.2.2.2.1 a.2.2.2.2.2.2.2.2.2.2.2.2) g39_O):=ok_rmo (S:=g39_S) (tf:=g39_tf) (SysOk.on trivial ⟨g50_ok,g38_ok,trivial⟩) (trE_ok (ks:=[]) Tryz.func12 (by kernel_rfl)) (by rfl) (fun _=>by simp [g39_B]) (fun _=>by simp) fun a=>g39_run a.1 a.2.1 a.2.2.1 a.2.2.2.1 a.2.2.2.2.1 a.2.2.2.2.2.1 a.2.2.2.2.2.2.1 a.2.2.2.2.2.2.2.1 a.2.2.2.2.2.2.2.2.1 a.2.2.2.2.2.2.2.2.2.1 a.2.2.2.2.2.2.2.2.2.2.1 a.2.2.2.2.2.2.2.2.2.2.2.1 a.2.2.2.2.2.2.2.2.2.2.2.2
theorem g39_ok:MRuleOk Tryz.prog 12 4 g39_r:=g39_ok0.weak fun a r hr=>by
  simp only [Option.bind_eq_some_iff] at hr
  obtain ⟨x,h1,h2⟩:=hr
  split at h2
  · rename_i hc
    simp only [Option.some.injEq] at h2
    rw [h1,← h2]
    simp [fixLen,hc]
  · cases h2
@[simp] theorem g39_app (y0:List Str)(y1:List (Int × Str))(y2 y3 y4 y5 y6 y7 y8 y9)(y10:List (Int × Str))(y11:List (Int × Str))(y12){n1:Nat}(h1:n1 = y0.length){n2:Nat}(h2:n2 = y1.length){n3:Nat}(h3:n3 = y10.length){n4:Nat}(h4:n4 = y11.length):g39_r [(.agg [(ow 0 n1),(ow 1 n2),(.int .i64 y2),(.bool y3),(.int .i64 y4),(.int .i64 y5),(.int .i64 y6),(.int .i64 y7),(.int .i64 y8),(.int .i64 y9),(ow 2 n3),(ow 3 n4)]),(.int .i64 y12)] [(ob 1 y0),(ob 2 y1),(ob 2 y10),(ob 2 y11)] = ((laws_markPager_o71 y0 y1 y2 y3 y4 y5 y6 y7 y8 y9 y10 y11 y12).bind fun r=>if r.1.length = y0.length ∧ r.2.1.length = y1.length ∧ r.2.2.1.length = y10.length ∧ r.2.2.2.1.length = y11.length then some ((fixLen y0 r.1),(fixLen y1 r.2.1),(fixLen y10 r.2.2.1),(fixLen y11 r.2.2.2.1),r.2.2.2.2) else none).map g39_O:=by
  subst h1 h2 h3 h4
  exact RmO_app (enc:=g39_E) (encB:=g39_B) (by intro a b h h2; simp [g39_E,g39_B,Prod.ext_iff] at h h2 ⊢; simp [h,h2]) (y0,y1,y2,y3,y4,y5,y6,y7,y8,y9,y10,y11,y12)
/-! laws.heldStringS -/
def g56l1_cb:TC:=(.seq (sq [mo 6 5,mo 7 0,le 8 7,bn 9 .lss (.t 6) (.t 8)] [0,1,5,9] (.cond (.t 9) .skip (.keep (kp [(1,0)] [] 0) (.exit 0)))) (.trim [0,1,5] (.seq (.block 1 (.seq (.seq (.draw [([],mo 12 0),([],mo 13 5),([0,1],ia 14 1 12 13),([0,1,2],ld 15 14),([],mo 16 1),([4],ca 17 84 [.t 16])] [oo 18 (.bin .str .neq (.t 15) (.t 17))]) (.trim [0,1,5,18] (.cond (.t 18) (.seq (.ops [mk 4 (ki (-1))]) (.keep (kp [(4,0)] [] 0) .ret)) .skip))) (.trim [0,1,5] (.ops [mo 19 1,bn 20 .add (.t 19) (ki 1),mo 1 20])))) (.trim [0,1,5] (.after (.ops [mo 10 5,bn 11 .add (.t 10) (ki 1),mo 5 11]) (kp [(0,0),(1,0),(5,0)] [] 0))))))
def g56l1_c:TC:=.loop [0,1,5] g56l1_cb
def g56_tf:TFn:=⟨(sq [mk 4 (ki 0)] [0,1] (.seq (sq [mk 5 (ki 0)] [0,1,5] (.block 0 (.keep (kp [(0,0),(1,0),(5,0)] [] 0) g56l1_c))) (.trim [1] (.seq (.ops [mo 21 1,mo 4 21]) (.keep (kp [(4,0)] [] 0) .ret))))),[.t 4]⟩
abbrev g56_S:=Sys.on [(84,g93_r)] []
@[reducible,simp] def g56l1_F:((Int) ⊕ (Int)) → Out:=(Sum.elim (fun t=>(.ext 0,[(1,(.int .i64 t))],[])) (fun t=>(.ret,[(4,(.int .i64 t))],[])))
def laws_heldStringS_l1_b (v1:List Str) (v2:Int) (v3:Int):Option ((Int × Int) ⊕ ((Int) ⊕ (Int))):=if v3 < (v1.length:Int) then if 0 ≤ v3 then (v1[(v3).toNat]?).bind fun x4=>(laws_markText v2).bind fun r5=>if ¬(x4 = r5) then some (.inr (.inr ((-1)))) else some (.inl ((IntKind.i64.wrap (v2 + 1)),(IntKind.i64.wrap (v3 + 1)))) else none else some (.inr (.inl v2))
theorem g56l1_b_eq  (v1:List Str) (v2:Int) (v3:Int):X g56_S g56l1_cb (keepEnv [0,1,5] [(0,(.vs (rows v1))),(1,(.int .i64 v2)),(5,(.int .i64 v3))]) [] = (laws_heldStringS_l1_b v1 v2 v3).map (Sum.elim (fun s=>(TX.nrm,[(0,(.vs (rows v1))),(1,(.int .i64 s.1)),(5,(.int .i64 s.2))],[])) g56l1_F):=by
  simp (maxSteps:=2000000) (maxDischargeDepth:=8) -implicitDefEqProofs [g56l1_cb,laws_heldStringS_l1_b] <;> (try simp only [map_to_bind,some_elim,g56l1_F])
def laws_heldStringS_l1 (v1:List Str) (s:Int × Int):Option ((Int) ⊕ (Int)):=loopO (fun s=>laws_heldStringS_l1_b v1 s.1 s.2) s
@[simp] theorem g56l1_eq (y0 y1 y2):X g56_S g56l1_c [(0,(.vs (rows y0))),(1,(.int .i64 y1)),(5,(.int .i64 y2))] [] = (laws_heldStringS_l1 y0 (y1,y2)).map g56l1_F:=by
  exact loop_X _ _ _ _ (by intro r; first | (simp; done) | (rcases r with r | r <;> simp; done) | (rcases r with r | r | r <;> simp; done) | (rcases r with r | r | r | r <;> simp)) (fun s=>g56l1_b_eq  y0 s.1 s.2) (y1,y2)
def laws_heldStringS (a_a:List Str) (a_k:Int):Option (Int):=(laws_heldStringS_l1 a_a ((a_k,0))).bind fun r6=>Sum.elim (fun u7=>some u7) (fun u8=>some u8) r6
@[simp] def g56_O:Int → TV × List Blk:=fun r=>((.int .i64 r),[])
def g56_E (a:List Str × Int):List TV:=[(.vs (rows a.1)),(.int .i64 a.2)]
theorem g56_run (a_a:List Str) (a_k:Int) :callFn (X g56_S) g56_tf (g56_E (a_a,a_k)) [] = (laws_heldStringS a_a a_k).map g56_O:=by
  rw [callFn_eq]
  simp (maxSteps:=2000000) (maxDischargeDepth:=8) -implicitDefEqProofs [g56_tf,laws_heldStringS,g56_E] <;> (try simp only [map_to_bind,some_elim,g56_O])
def g56_r:Rule:=RlO g56_E (fun a=>laws_heldStringS a.1 a.2) g56_O
theorem g56_ok:RuleOk Tryz.prog 91 g56_r:=ok_rlo (S:=g56_S) (tf:=g56_tf) (SysOk.on ⟨g93_ok,trivial⟩ trivial) (trE_ok (ks:=[[0,1,5],[6]]) Tryz.func91 (by kernel_rfl)) fun a=>g56_run a.1 a.2
@[simp] theorem g56_app (y0 y1):g56_r [(.vs (rows y0)),(.int .i64 y1)] = (laws_heldStringS y0 y1).map g56_O :=
  RlO_app (enc:=g56_E) (by intro a b h; simp [g56_E,Prod.ext_iff] at h ⊢; simp [h]) (y0,y1)
/-! laws.heldPutS -/
def g94l1_cb:TC:=(.seq (sq [mo 6 5,mo 7 0,le 8 7,bn 9 .lss (.t 6) (.t 8)] [0,1,5,9] (.cond (.t 9) .skip (.keep (kp [(1,0)] [] 0) (.exit 0)))) (.trim [0,1,5] (.seq (.block 1 (.seq (sq [mo 12 0,mo 13 5,ia 14 2 12 13,fa 15 0 14,ld 16 15,mo 17 1,bn 18 .neq (.t 16) (.t 17)] [0,1,5,18] (.cond (.t 18) (.seq (.ops [mk 4 (ki (-1))]) (.keep (kp [(4,0)] [] 0) .ret)) .skip)) (.trim [0,1,5] (sq [mo 19 1,bn 20 .add (.t 19) (ki 1),mo 1 20] [0,1,5] (.seq (.seq (.draw [([],mo 21 0),([],mo 22 5),([0,1],ia 23 2 21 22),([0,1,2],fa 24 1 23),([0,1,2,3],ld 25 24),([],mo 26 1),([5],ca 27 84 [.t 26])] [oo 28 (.bin .str .neq (.t 25) (.t 27))]) (.trim [0,1,5,28] (.cond (.t 28) (.seq (.ops [mk 4 (ki (-1))]) (.keep (kp [(4,0)] [] 0) .ret)) .skip))) (.trim [0,1,5] (.ops [mo 29 1,bn 30 .add (.t 29) (ki 1),mo 1 30]))))))) (.trim [0,1,5] (.after (.ops [mo 10 5,bn 11 .add (.t 10) (ki 1),mo 5 11]) (kp [(0,0),(1,0),(5,0)] [] 0))))))
def g94l1_c:TC:=.loop [0,1,5] g94l1_cb
def g94_tf:TFn:=⟨(sq [mk 4 (ki 0)] [0,1] (.seq (sq [mk 5 (ki 0)] [0,1,5] (.block 0 (.keep (kp [(0,0),(1,0),(5,0)] [] 0) g94l1_c))) (.trim [1] (.seq (.ops [mo 31 1,mo 4 31]) (.keep (kp [(4,0)] [] 0) .ret))))),[.t 4]⟩
abbrev g94_S:=Sys.on [(84,g93_r)] []
@[reducible,simp] def g94l1_F:((Int) ⊕ (Int)) → Out:=(Sum.elim (fun t=>(.ext 0,[(1,(.int .i64 t))],[])) (fun t=>(.ret,[(4,(.int .i64 t))],[])))
def laws_heldPutS_l1_b (v1:List (Int × Str)) (v2:Int) (v3:Int):Option ((Int × Int) ⊕ ((Int) ⊕ (Int))):=if v3 < (v1.length:Int) then if 0 ≤ v3 then (v1[(v3).toNat]?).bind fun x4=>if ¬(x4.1 = v2) then some (.inr (.inr ((-1)))) else if 0 ≤ v3 then (v1[(v3).toNat]?).bind fun x5=>(laws_markText ((IntKind.i64.wrap (v2 + 1)))).bind fun r6=>if ¬(x5.2 = r6) then some (.inr (.inr ((-1)))) else some (.inl ((IntKind.i64.wrap ((IntKind.i64.wrap (v2 + 1)) + 1)),(IntKind.i64.wrap (v3 + 1)))) else none else none else some (.inr (.inl v2))
theorem g94l1_b_eq  (v1:List (Int × Str)) (v2:Int) (v3:Int):X g94_S g94l1_cb (keepEnv [0,1,5] [(0,(.vs (rows v1))),(1,(.int .i64 v2)),(5,(.int .i64 v3))]) [] = (laws_heldPutS_l1_b v1 v2 v3).map (Sum.elim (fun s=>(TX.nrm,[(0,(.vs (rows v1))),(1,(.int .i64 s.1)),(5,(.int .i64 s.2))],[])) g94l1_F):=by
  simp (maxSteps:=2000000) (maxDischargeDepth:=8) -implicitDefEqProofs [g94l1_cb,laws_heldPutS_l1_b] <;> (try simp only [map_to_bind,some_elim,g94l1_F])
def laws_heldPutS_l1 (v1:List (Int × Str)) (s:Int × Int):Option ((Int) ⊕ (Int)):=loopO (fun s=>laws_heldPutS_l1_b v1 s.1 s.2) s
@[simp] theorem g94l1_eq (y0 y1 y2):X g94_S g94l1_c [(0,(.vs (rows y0))),(1,(.int .i64 y1)),(5,(.int .i64 y2))] [] = (laws_heldPutS_l1 y0 (y1,y2)).map g94l1_F:=by
  exact loop_X _ _ _ _ (by intro r; first | (simp; done) | (rcases r with r | r <;> simp; done) | (rcases r with r | r | r <;> simp; done) | (rcases r with r | r | r | r <;> simp)) (fun s=>g94l1_b_eq  y0 s.1 s.2) (y1,y2)
def laws_heldPutS (a_a:List (Int × Str)) (a_k:Int):Option (Int):=(laws_heldPutS_l1 a_a ((a_k,0))).bind fun r7=>Sum.elim (fun u8=>some u8) (fun u9=>some u9) r7
@[simp] def g94_O:Int → TV × List Blk:=fun r=>((.int .i64 r),[])
def g94_E (a:(List (Int × Str)) × Int):List TV:=[(.vs (rows a.1)),(.int .i64 a.2)]
theorem g94_run (a_a:List (Int × Str)) (a_k:Int) :callFn (X g94_S) g94_tf (g94_E (a_a,a_k)) [] = (laws_heldPutS a_a a_k).map g94_O:=by
  rw [callFn_eq]
  simp (maxSteps:=2000000) (maxDischargeDepth:=8) -implicitDefEqProofs [g94_tf,laws_heldPutS,g94_E] <;> (try simp only [map_to_bind,some_elim,g94_O])
def g94_r:Rule:=RlO g94_E (fun a=>laws_heldPutS a.1 a.2) g94_O
theorem g94_ok:RuleOk Tryz.prog 92 g94_r:=ok_rlo (S:=g94_S) (tf:=g94_tf) (SysOk.on ⟨g93_ok,trivial⟩ trivial) (trE_ok (ks:=[[0,1,5],[7]]) Tryz.func92 (by kernel_rfl)) fun a=>g94_run a.1 a.2
@[simp] theorem g94_app (y0 y1):g94_r [(.vs (rows y0)),(.int .i64 y1)] = (laws_heldPutS y0 y1).map g94_O :=
  RlO_app (enc:=g94_E) (by intro a b h; simp [g94_E,Prod.ext_iff] at h ⊢; simp [h]) (y0,y1)
/-! laws.heldDisk -/
def g95_tf:TFn:=⟨(sq [bx 2 0,mk 4 (ki 0)] [1,2] (sq [fa 5 0 2,ld 6 5,mo 7 1,ca 8 91 [.t 6,.t 7],mo 1 8] [1,2] (.seq (sq [mo 9 1,bn 10 .lss (.t 9) (ki 0)] [1,2,10] (.cond (.t 10) (.seq (.ops [mk 4 (ki (-1))]) (.keep (kp [(4,0)] [] 0) .ret)) .skip)) (.trim [1,2] (sq [fa 11 1 2,ld 12 11,mo 13 1,ca 14 92 [.t 12,.t 13],mo 1 14] [1] (.seq (sq [mo 15 1,bn 16 .lss (.t 15) (ki 0)] [1,16] (.cond (.t 16) (.seq (.ops [mk 4 (ki (-1))]) (.keep (kp [(4,0)] [] 0) .ret)) .skip)) (.trim [1] (.seq (.ops [mo 17 1,mo 4 17]) (.keep (kp [(4,0)] [] 0) .ret))))))))),[.t 4]⟩
abbrev g95_S:=Sys.on [(91,g56_r),(92,g94_r)] []
def laws_heldDisk (a_a:K0) (a_k:Int):Option (Int):=(laws_heldStringS a_a.1 a_k).bind fun r1=>if r1 < 0 then some ((-1)) else (laws_heldPutS a_a.2.1 r1).bind fun r2=>if r2 < 0 then some ((-1)) else some r2
@[simp] def g95_O:Int → TV × List Blk:=fun r=>((.int .i64 r),[])
def g95_E (a:K0 × Int):List TV:=[(.agg [(.vs (rows a.1.1)),(.vs (rows a.1.2.1)),(.int .i64 a.1.2.2.1),(.bool a.1.2.2.2)]),(.int .i64 a.2)]
theorem g95_run (a_a:K0) (a_k:Int) :callFn (X g95_S) g95_tf (g95_E (a_a,a_k)) [] = (laws_heldDisk a_a a_k).map g95_O:=by
  rw [callFn_eq]
  simp (maxSteps:=2000000) (maxDischargeDepth:=8) -implicitDefEqProofs [g95_tf,laws_heldDisk,g95_E] <;> (try simp only [map_to_bind,some_elim,g95_O])
def g95_r:Rule:=RlO g95_E (fun a=>laws_heldDisk a.1 a.2) g95_O
theorem g95_ok:RuleOk Tryz.prog 47 g95_r:=ok_rlo (S:=g95_S) (tf:=g95_tf) (SysOk.on ⟨g56_ok,g94_ok,trivial⟩ trivial) (trE_ok (ks:=[]) Tryz.func47 (by kernel_rfl)) fun a=>g95_run a.1 a.2
@[simp] theorem g95_app (y0 y1 y2 y3 y4):g95_r [(.agg [(.vs (rows y0)),(.vs (rows y1)),(.int .i64 y2),(.bool y3)]),(.int .i64 y4)] = (laws_heldDisk ((y0,y1,y2,y3)) y4).map g95_O :=
  RlO_app (enc:=g95_E) (by intro a b h; simp [g95_E,Prod.ext_iff] at h ⊢; simp [h]) ((y0,y1,y2,y3),y4)
/-! laws.heldPageS -/
def g84l1_cb:TC:=(.seq (sq [mo 6 5,mo 7 0,le 8 7,bn 9 .lss (.t 6) (.t 8)] [0,1,5,9] (.cond (.t 9) .skip (.keep (kp [(1,0)] [] 0) (.exit 0)))) (.trim [0,1,5] (.seq (.block 1 (.seq (sq [mo 12 0,mo 13 5,ia 14 2 12 13,fa 15 0 14,ld 16 15,mo 17 1,bn 18 .neq (.t 16) (.t 17)] [0,1,5,18] (.cond (.t 18) (.seq (.ops [mk 4 (ki (-1))]) (.keep (kp [(4,0)] [] 0) .ret)) .skip)) (.trim [0,1,5] (sq [mo 19 1,bn 20 .add (.t 19) (ki 1),mo 1 20] [0,1,5] (.seq (.seq (.draw [([],mo 21 0),([],mo 22 5),([0,1],ia 23 2 21 22),([0,1,2],fa 24 1 23),([0,1,2,3],ld 25 24),([],mo 26 1),([5],ca 27 84 [.t 26])] [oo 28 (.bin .str .neq (.t 25) (.t 27))]) (.trim [0,1,5,28] (.cond (.t 28) (.seq (.ops [mk 4 (ki (-1))]) (.keep (kp [(4,0)] [] 0) .ret)) .skip))) (.trim [0,1,5] (.ops [mo 29 1,bn 30 .add (.t 29) (ki 1),mo 1 30]))))))) (.trim [0,1,5] (.after (.ops [mo 10 5,bn 11 .add (.t 10) (ki 1),mo 5 11]) (kp [(0,0),(1,0),(5,0)] [] 0))))))
def g84l1_c:TC:=.loop [0,1,5] g84l1_cb
def g84_tf:TFn:=⟨(sq [mk 4 (ki 0)] [0,1] (.seq (sq [mk 5 (ki 0)] [0,1,5] (.block 0 (.keep (kp [(0,0),(1,0),(5,0)] [] 0) g84l1_c))) (.trim [1] (.seq (.ops [mo 31 1,mo 4 31]) (.keep (kp [(4,0)] [] 0) .ret))))),[.t 4]⟩
abbrev g84_S:=Sys.on [(84,g93_r)] []
@[reducible,simp] def g84l1_F:((Int) ⊕ (Int)) → Out:=(Sum.elim (fun t=>(.ext 0,[(1,(.int .i64 t))],[])) (fun t=>(.ret,[(4,(.int .i64 t))],[])))
def laws_heldPageS_l1_b (v1:List (Int × Str)) (v2:Int) (v3:Int):Option ((Int × Int) ⊕ ((Int) ⊕ (Int))):=if v3 < (v1.length:Int) then if 0 ≤ v3 then (v1[(v3).toNat]?).bind fun x4=>if ¬(x4.1 = v2) then some (.inr (.inr ((-1)))) else if 0 ≤ v3 then (v1[(v3).toNat]?).bind fun x5=>(laws_markText ((IntKind.i64.wrap (v2 + 1)))).bind fun r6=>if ¬(x5.2 = r6) then some (.inr (.inr ((-1)))) else some (.inl ((IntKind.i64.wrap ((IntKind.i64.wrap (v2 + 1)) + 1)),(IntKind.i64.wrap (v3 + 1)))) else none else none else some (.inr (.inl v2))
theorem g84l1_b_eq  (v1:List (Int × Str)) (v2:Int) (v3:Int):X g84_S g84l1_cb (keepEnv [0,1,5] [(0,(.vs (rows v1))),(1,(.int .i64 v2)),(5,(.int .i64 v3))]) [] = (laws_heldPageS_l1_b v1 v2 v3).map (Sum.elim (fun s=>(TX.nrm,[(0,(.vs (rows v1))),(1,(.int .i64 s.1)),(5,(.int .i64 s.2))],[])) g84l1_F):=by
  simp (maxSteps:=2000000) (maxDischargeDepth:=8) -implicitDefEqProofs [g84l1_cb,laws_heldPageS_l1_b] <;> (try simp only [map_to_bind,some_elim,g84l1_F])
def laws_heldPageS_l1 (v1:List (Int × Str)) (s:Int × Int):Option ((Int) ⊕ (Int)):=loopO (fun s=>laws_heldPageS_l1_b v1 s.1 s.2) s
@[simp] theorem g84l1_eq (y0 y1 y2):X g84_S g84l1_c [(0,(.vs (rows y0))),(1,(.int .i64 y1)),(5,(.int .i64 y2))] [] = (laws_heldPageS_l1 y0 (y1,y2)).map g84l1_F:=by
  exact loop_X _ _ _ _ (by intro r; first | (simp; done) | (rcases r with r | r <;> simp; done) | (rcases r with r | r | r <;> simp; done) | (rcases r with r | r | r | r <;> simp)) (fun s=>g84l1_b_eq  y0 s.1 s.2) (y1,y2)
def laws_heldPageS (a_a:List (Int × Str)) (a_k:Int):Option (Int):=(laws_heldPageS_l1 a_a ((a_k,0))).bind fun r7=>Sum.elim (fun u8=>some u8) (fun u9=>some u9) r7
@[simp] def g84_O:Int → TV × List Blk:=fun r=>((.int .i64 r),[])
def g84_E (a:(List (Int × Str)) × Int):List TV:=[(.vs (rows a.1)),(.int .i64 a.2)]
theorem g84_run (a_a:List (Int × Str)) (a_k:Int) :callFn (X g84_S) g84_tf (g84_E (a_a,a_k)) [] = (laws_heldPageS a_a a_k).map g84_O:=by
  rw [callFn_eq]
  simp (maxSteps:=2000000) (maxDischargeDepth:=8) -implicitDefEqProofs [g84_tf,laws_heldPageS,g84_E] <;> (try simp only [map_to_bind,some_elim,g84_O])
def g84_r:Rule:=RlO g84_E (fun a=>laws_heldPageS a.1 a.2) g84_O
theorem g84_ok:RuleOk Tryz.prog 48 g84_r:=ok_rlo (S:=g84_S) (tf:=g84_tf) (SysOk.on ⟨g93_ok,trivial⟩ trivial) (trE_ok (ks:=[[0,1,5],[7]]) Tryz.func48 (by kernel_rfl)) fun a=>g84_run a.1 a.2
@[simp] theorem g84_app (y0 y1):g84_r [(.vs (rows y0)),(.int .i64 y1)] = (laws_heldPageS y0 y1).map g84_O :=
  RlO_app (enc:=g84_E) (by intro a b h; simp [g84_E,Prod.ext_iff] at h ⊢; simp [h]) (y0,y1)
/-! laws.heldPager -/
def g85_tf:TFn:=⟨(sq [bx 2 0,mk 4 (ki 0)] [1,2] (sq [fa 5 0 2,ln 6 4 5,mo 7 1,ca 8 47 [.t 6,.t 7],mo 1 8] [1,2] (.seq (sq [mo 9 1,bn 10 .lss (.t 9) (ki 0)] [1,2,10] (.cond (.t 10) (.seq (.ops [mk 4 (ki (-1))]) (.keep (kp [(4,0)] [] 0) .ret)) .skip)) (.trim [1,2] (sq [fa 11 10 2,ld 12 11,mo 13 1,ca 14 48 [.t 12,.t 13],mo 1 14] [1,2] (.seq (sq [mo 15 1,bn 16 .lss (.t 15) (ki 0)] [1,2,16] (.cond (.t 16) (.seq (.ops [mk 4 (ki (-1))]) (.keep (kp [(4,0)] [] 0) .ret)) .skip)) (.trim [1,2] (sq [fa 17 11 2,ld 18 17,mo 19 1,ca 20 48 [.t 18,.t 19],mo 1 20] [1] (.seq (sq [mo 21 1,bn 22 .lss (.t 21) (ki 0)] [1,22] (.cond (.t 22) (.seq (.ops [mk 4 (ki (-1))]) (.keep (kp [(4,0)] [] 0) .ret)) .skip)) (.trim [1] (.seq (.ops [mo 23 1,mo 4 23]) (.keep (kp [(4,0)] [] 0) .ret)))))))))))),[.t 4]⟩
abbrev g85_S:=Sys.on [(47,g95_r),(48,g84_r)] []
def laws_heldPager (a_a:K1) (a_k:Int):Option (Int):=(laws_heldDisk a_a.1 a_k).bind fun r1=>if r1 < 0 then some ((-1)) else (laws_heldPageS a_a.2.2.2.2.1 r1).bind fun r2=>if r2 < 0 then some ((-1)) else (laws_heldPageS a_a.2.2.2.2.2 r2).bind fun r3=>if r3 < 0 then some ((-1)) else some r3
@[simp] def g85_O:Int → TV × List Blk:=fun r=>((.int .i64 r),[])
def g85_E (a:K1 × Int):List TV:=[(.agg [(.vs (rows a.1.1.1)),(.vs (rows a.1.1.2.1)),(.int .i64 a.1.1.2.2.1),(.bool a.1.1.2.2.2),(.int .i64 a.1.2.1.1),(.int .i64 a.1.2.1.2.1),(.int .i64 a.1.2.1.2.2.1),(.int .i64 a.1.2.1.2.2.2),(.int .i64 a.1.2.2.1),(.int .i64 a.1.2.2.2.1),(.vs (rows a.1.2.2.2.2.1)),(.vs (rows a.1.2.2.2.2.2))]),(.int .i64 a.2)]
theorem g85_run (a_a:K1) (a_k:Int) :callFn (X g85_S) g85_tf (g85_E (a_a,a_k)) [] = (laws_heldPager a_a a_k).map g85_O:=by
  rw [callFn_eq]
  simp (maxSteps:=2000000) (maxDischargeDepth:=8) -implicitDefEqProofs [g85_tf,laws_heldPager,g85_E] <;> (try simp only [map_to_bind,some_elim,g85_O])
def g85_r:Rule:=RlO g85_E (fun a=>laws_heldPager a.1 a.2) g85_O
theorem g85_ok:RuleOk Tryz.prog 22 g85_r:=ok_rlo (S:=g85_S) (tf:=g85_tf) (SysOk.on ⟨g95_ok,g84_ok,trivial⟩ trivial) (trE_ok (ks:=[]) Tryz.func22 (by kernel_rfl)) fun a=>g85_run a.1 a.2
@[simp] theorem g85_app (y0 y1 y2 y3 y4 y5 y6 y7 y8 y9 y10 y11 y12):g85_r [(.agg [(.vs (rows y0)),(.vs (rows y1)),(.int .i64 y2),(.bool y3),(.int .i64 y4),(.int .i64 y5),(.int .i64 y6),(.int .i64 y7),(.int .i64 y8),(.int .i64 y9),(.vs (rows y10)),(.vs (rows y11))]),(.int .i64 y12)] = (laws_heldPager (((y0,y1,y2,y3),(y4,y5,y6,y7),y8,y9,y10,y11)) y12).map g85_O :=
  RlO_app (enc:=g85_E) (by intro a b h; simp [g85_E,Prod.ext_iff] at h ⊢; simp [h]) (((y0,y1,y2,y3),(y4,y5,y6,y7),y8,y9,y10,y11),y12)
/-! laws.FnExactFreeHeader -/
def g26_tf:TFn:=⟨(sq [bx 2 0,mk 4 (kb false)] [1,2] (sq [mk 5 (ki 1048576)] [1,2,5] (sq [ln 16 12 2,mo 17 5,ca 18 6 [.t 16,.t 17],mo 5 18] [1,2,5] (.seq (sq [mo 19 5,bn 20 .lss (.t 19) (ki 0)] [1,2,20] (.cond (.t 20) (.seq (.ops [mk 4 (kb true)]) (.keep (kp [(4,0)] [] 0) .ret)) .skip)) (.trim [1,2] (sq [ln 22 12 2,ca 23 8 [.t 22],mo 24 1,ca 25 20 [.t 23,.t 24],mo 21 25,oo 26 (.ext (.t 21) 0),oo 27 (.ext (.t 21) 1),oo 6 (.alloc [.nils,.nils,(.int .i64 0),(.bool false),(.int .i64 0),(.int .i64 0),(.int .i64 0),(.int .i64 0),(.int .i64 0),(.int .i64 0),.nils,.nils]),⟨none,none,(.store 12 (.t 6) (.t 26))⟩,mo 7 27] [1,2,6,7] (sq [ln 28 12 2,ca 29 8 [.t 28],oo 8 (.alloc [.nils,.nils,(.int .i64 0),(.bool false),(.int .i64 0),(.int .i64 0),(.int .i64 0),(.int .i64 0),(.int .i64 0),(.int .i64 0),.nils,.nils]),⟨none,none,(.store 12 (.t 8) (.t 29))⟩] [1,2,6,7,8] (sq [ln 31 12 8,mo 32 1,ca 33 21 [.t 31,.t 32],mo 30 33,oo 34 (.ext (.t 30) 0),oo 35 (.ext (.t 30) 1),oo 9 (.alloc [.nils,.nils,(.int .i64 0),(.bool false),(.int .i64 0),(.int .i64 0),(.int .i64 0),(.int .i64 0),(.int .i64 0),(.int .i64 0),.nils,.nils]),⟨none,none,(.store 12 (.t 9) (.t 34))⟩,mo 10 35] [1,2,6,7,8,9,10] (.seq (sq [ln 36 12 9,ln 37 12 6,ca 38 11 [.t 36,.t 37],nt 39 38,mo 40 39,⟨(some 41),(some (40,false)),(.mv (.t 10))⟩,⟨(some 42),(some (40,false)),(.mv (.t 7))⟩,⟨(some 43),(some (40,false)),(.bin .num .neq (.t 41) (.t 42))⟩,pk 44 (.t 40) (kb true) (.t 43)] [1,2,6,7,8,9,10,44] (.cond (.t 44) (.seq (.ops [mk 4 (kb false)]) (.keep (kp [(4,0)] [] 0) .ret)) .skip)) (.trim [1,2,6,7,8,9,10] (.seq (.seq (.draw [([],ln 45 12 8),([],ln 46 12 2),([1],ca 47 8 [.t 46])] [ca 48 11 [.t 45,.t 47],nt 49 48]) (.trim [1,2,6,7,8,9,10,49] (.cond (.t 49) (.seq (.ops [mk 4 (kb false)]) (.keep (kp [(4,0)] [] 0) .ret)) .skip))) (.trim [1,2,6,7,8,9,10] (sq [mk 11 (ki 1)] [1,2,6,7,8,9,10,11] (sq [ln 50 12 8,mo 51 11,oo 52 (.callM 12 0 [13,14,15,16] [.t 50,.t 51]),mo 11 52] [1,2,6,7,9,10,11] (.seq (sq [mo 53 11,bn 54 .lss (.t 53) (ki 0),mo 55 54,⟨(some 56),(some (55,false)),(.load (some 12) (.t 9))⟩,⟨(some 57),(some (55,false)),(.load (some 12) (.t 6))⟩,⟨(some 58),(some (55,false)),(.call 11 [.t 56,.t 57])⟩,⟨(some 59),(some (55,false)),(.un .not (.t 58))⟩,pk 60 (.t 55) (kb true) (.t 59),mo 61 60,⟨(some 62),(some (61,false)),(.mv (.t 10))⟩,⟨(some 63),(some (61,false)),(.mv (.t 7))⟩,⟨(some 64),(some (61,false)),(.bin .num .neq (.t 62) (.t 63))⟩,pk 65 (.t 61) (kb true) (.t 64)] [1,2,6,7,9,65] (.cond (.t 65) (.seq (.ops [mk 4 (kb false)]) (.keep (kp [(4,0)] [] 0) .ret)) .skip)) (.trim [1,2,6,7,9] (sq [mk 12 (ki 1)] [1,2,6,7,9,12] (sq [ln 66 12 9,mo 67 12,oo 68 (.callM 12 0 [19,20,21,22] [.t 66,.t 67]),mo 12 68] [1,2,6,7,9,12] (sq [mk 13 (ki 1)] [1,2,6,7,9,12,13] (sq [ln 69 12 9,mo 70 13,ca 71 22 [.t 69,.t 70],mo 13 71] [1,2,6,7,9,12,13] (.seq (sq [mo 72 13,bn 73 .lss (.t 72) (ki 0)] [1,2,6,7,9,12,13,73] (.cond (.t 73) (.seq (.ops [mk 4 (kb false)]) (.keep (kp [(4,0)] [] 0) .ret)) .skip)) (.trim [1,2,6,7,9,12,13] (.seq (sq [mo 74 13,mo 75 12,bn 76 .neq (.t 74) (.t 75)] [1,2,6,7,9,12,76] (.cond (.t 76) (.seq (.ops [mk 4 (kb false)]) (.keep (kp [(4,0)] [] 0) .ret)) .skip)) (.trim [1,2,6,7,9,12] (sq [ln 78 12 2,ca 79 8 [.t 78],mo 80 1,ca 81 21 [.t 79,.t 80],mo 77 81,oo 82 (.ext (.t 77) 0),oo 83 (.ext (.t 77) 1),oo 14 (.alloc [.nils,.nils,(.int .i64 0),(.bool false),(.int .i64 0),(.int .i64 0),(.int .i64 0),(.int .i64 0),(.int .i64 0),(.int .i64 0),.nils,.nils]),⟨none,none,(.store 12 (.t 14) (.t 82))⟩,mo 15 83] [6,7,9,12,14,15] (.seq (sq [ln 84 12 14,ln 85 12 6,ca 86 11 [.t 84,.t 85],nt 87 86,mo 88 87,⟨(some 89),(some (88,false)),(.mv (.t 15))⟩,⟨(some 90),(some (88,false)),(.mv (.t 7))⟩,⟨(some 91),(some (88,false)),(.bin .num .neq (.t 89) (.t 90))⟩,pk 92 (.t 88) (kb true) (.t 91)] [9,12,92] (.cond (.t 92) (.seq (.ops [mk 4 (kb false)]) (.keep (kp [(4,0)] [] 0) .ret)) .skip)) (.trim [9,12] (sq [mk 13 (ki 1)] [9,12,13] (sq [ln 93 12 9,mo 94 13,ca 95 22 [.t 93,.t 94],mo 13 95] [12,13] (.seq (sq [mo 96 13,bn 97 .lss (.t 96) (ki 0)] [12,13,97] (.cond (.t 97) (.seq (.ops [mk 4 (kb false)]) (.keep (kp [(4,0)] [] 0) .ret)) .skip)) (.trim [12,13] (.seq (sq [mo 98 13,mo 99 12,bn 100 .neq (.t 98) (.t 99)] [100] (.cond (.t 100) (.seq (.ops [mk 4 (kb false)]) (.keep (kp [(4,0)] [] 0) .ret)) .skip)) (.trim [] (.seq (.ops [mk 4 (kb true)]) (.keep (kp [(4,0)] [] 0) .ret))))))))))))))))))))))))))))))))))),[.t 4]⟩
abbrev g26_S:=Sys.on [(6,g97_r),(8,g100_r),(20,g61_r),(21,g70_r),(11,g115_r),(22,g85_r)] [((12,0),(4,g39_r))]
def laws_FnExactFreeHeader (a_aP:K1) (a_aAt:Int):Option (Bool):=(laws_szPager a_aP 1048576).bind fun r1=>if r1 < 0 then some true else (laws_toPager a_aP).bind fun r2=>(spec_FreeHeader r2 a_aAt).bind fun r3=>(laws_toPager a_aP).bind fun r4=>(impl_FreeHeader r4 a_aAt).bind fun r5=>(laws_eqPager r5.1 r3.1).bind fun r6=>if ¬(r6 = true) then some false else if ¬(r5.2 = r3.2) then some false else (laws_toPager a_aP).bind fun r7=>(laws_eqPager r4 r7).bind fun r8=>if ¬(r8 = true) then some false else (laws_markPager_o71 r4.1.1 r4.1.2.1 r4.1.2.2.1 r4.1.2.2.2 r4.2.1.1 r4.2.1.2.1 r4.2.1.2.2.1 r4.2.1.2.2.2 r4.2.2.1 r4.2.2.2.1 r4.2.2.2.2.1 r4.2.2.2.2.2 1).bind fun r9=>if r9.1.length = r4.1.1.length ∧ r9.2.1.length = r4.1.2.1.length ∧ r9.2.2.1.length = r4.2.2.2.2.1.length ∧ r9.2.2.2.1.length = r4.2.2.2.2.2.length then if r9.2.2.2.2 < 0 then some false else (laws_eqPager r5.1 r3.1).bind fun r10=>if ¬(r10 = true) then some false else if ¬(r5.2 = r3.2) then some false else (laws_markPager_o71 r5.1.1.1 r5.1.1.2.1 r5.1.1.2.2.1 r5.1.1.2.2.2 r5.1.2.1.1 r5.1.2.1.2.1 r5.1.2.1.2.2.1 r5.1.2.1.2.2.2 r5.1.2.2.1 r5.1.2.2.2.1 r5.1.2.2.2.2.1 r5.1.2.2.2.2.2 1).bind fun r11=>if r11.1.length = r5.1.1.1.length ∧ r11.2.1.length = r5.1.1.2.1.length ∧ r11.2.2.1.length = r5.1.2.2.2.2.1.length ∧ r11.2.2.2.1.length = r5.1.2.2.2.2.2.length then (laws_heldPager ((((fixLen r5.1.1.1 r11.1),(fixLen r5.1.1.2.1 r11.2.1),r5.1.1.2.2.1,r5.1.1.2.2.2),(r5.1.2.1.1,r5.1.2.1.2.1,r5.1.2.1.2.2.1,r5.1.2.1.2.2.2),r5.1.2.2.1,r5.1.2.2.2.1,(fixLen r5.1.2.2.2.2.1 r11.2.2.1),(fixLen r5.1.2.2.2.2.2 r11.2.2.2.1))) 1).bind fun r12=>if r12 < 0 then some false else if ¬(r12 = r11.2.2.2.2) then some false else (laws_toPager a_aP).bind fun r13=>(impl_FreeHeader r13 a_aAt).bind fun r14=>(laws_eqPager r14.1 r3.1).bind fun r15=>if ¬(r15 = true) then some false else if ¬(r14.2 = r3.2) then some false else (laws_heldPager ((((fixLen r5.1.1.1 r11.1),(fixLen r5.1.1.2.1 r11.2.1),r5.1.1.2.2.1,r5.1.1.2.2.2),(r5.1.2.1.1,r5.1.2.1.2.1,r5.1.2.1.2.2.1,r5.1.2.1.2.2.2),r5.1.2.2.1,r5.1.2.2.2.1,(fixLen r5.1.2.2.2.2.1 r11.2.2.1),(fixLen r5.1.2.2.2.2.2 r11.2.2.2.1))) 1).bind fun r16=>if r16 < 0 then some false else if ¬(r16 = r11.2.2.2.2) then some false else some true else none else none
@[simp] def g26_O:Bool → TV × List Blk:=fun r=>((.bool r),[])
def g26_E (a:K1 × Int):List TV:=[(.agg [(.vs (rows a.1.1.1)),(.vs (rows a.1.1.2.1)),(.int .i64 a.1.1.2.2.1),(.bool a.1.1.2.2.2),(.int .i64 a.1.2.1.1),(.int .i64 a.1.2.1.2.1),(.int .i64 a.1.2.1.2.2.1),(.int .i64 a.1.2.1.2.2.2),(.int .i64 a.1.2.2.1),(.int .i64 a.1.2.2.2.1),(.vs (rows a.1.2.2.2.2.1)),(.vs (rows a.1.2.2.2.2.2))]),(.int .i64 a.2)]
theorem g26_run (a_aP:K1) (a_aAt:Int) :callFn (X g26_S) g26_tf (g26_E (a_aP,a_aAt)) [] = (laws_FnExactFreeHeader a_aP a_aAt).map g26_O:=by
  rw [callFn_eq]
  simp (maxSteps:=2000000) (maxDischargeDepth:=8) -implicitDefEqProofs [g26_tf,laws_FnExactFreeHeader,g26_E] <;> (try simp only [map_to_bind,some_elim,g26_O])
def laws_FnExactFreeHeader_r:Rule:=RlO g26_E (fun a=>laws_FnExactFreeHeader a.1 a.2) g26_O
theorem laws_FnExactFreeHeader_ok:RuleOk Tryz.prog 5 laws_FnExactFreeHeader_r:=ok_rlo (S:=g26_S) (tf:=g26_tf) (SysOk.on ⟨g97_ok,g100_ok,g61_ok,g70_ok,g115_ok,g85_ok,trivial⟩ ⟨g39_ok,trivial⟩) (trE_ok (ks:=[[3]]) Tryz.func5 (by kernel_rfl)) fun a=>g26_run a.1 a.2
@[simp] theorem laws_FnExactFreeHeader_app (y0 y1 y2 y3 y4 y5 y6 y7 y8 y9 y10 y11 y12):laws_FnExactFreeHeader_r [(.agg [(.vs (rows y0)),(.vs (rows y1)),(.int .i64 y2),(.bool y3),(.int .i64 y4),(.int .i64 y5),(.int .i64 y6),(.int .i64 y7),(.int .i64 y8),(.int .i64 y9),(.vs (rows y10)),(.vs (rows y11))]),(.int .i64 y12)] = (laws_FnExactFreeHeader (((y0,y1,y2,y3),(y4,y5,y6,y7),y8,y9,y10,y11)) y12).map g26_O :=
  RlO_app (enc:=g26_E) (by intro a b h; simp [g26_E,Prod.ext_iff] at h ⊢; simp [h]) (((y0,y1,y2,y3),(y4,y5,y6,y7),y8,y9,y10,y11),y12)
end
end Go.Proofs.TM
