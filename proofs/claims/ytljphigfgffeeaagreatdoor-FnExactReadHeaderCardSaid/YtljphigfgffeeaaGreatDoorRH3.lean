/- Functions of the program, as functions of their data: written by program. -/
import Derived.Test.YtljphigfgffeeaaGreatDoorRH2
namespace Go.Proofs.TM
open Go Go.Proofs
set_option linter.unusedVariables false
set_option linter.unusedSimpArgs false
set_option maxHeartbeats 1000000
attribute [-simp] Option.map_bind strV_some
attribute [simp] guardOn_bool sA_bslice Function.comp_def
noncomputable section
/-! (*impl.Pager).header -/
def g39_tf:TFn:=⟨(sq [oo 4 (.alloc [(.int .i64 0),(.int .i64 0),.nils]),mk 5 (ki 0)] [0,1,4] (sq [mo 10 0,mo 11 1,ca 12 31 [.t 10,.t 11],mo 9 12,oo 13 (.ext (.t 9) 0),oo 14 (.ext (.t 9) 1),oo 15 (.ext (.t 9) 2),oo 7 (.alloc [(.int .i64 0),(.int .i64 0),.nils]),mo 6 13,⟨none,none,(.store 3 (.t 7) (.t 14))⟩,mo 8 15] [4,7,8] (.seq (sq [mo 16 8,nt 17 16] [4,7,17] (.cond (.t 17) (.seq (.ops [oo 18 (.build [(.int .i64 0),(.int .i64 0),.nils] []),⟨none,none,(.store 3 (.t 4) (.t 18))⟩,mk 5 (ki 10)]) (.keep (kp [(4,0),(5,0)] [(0,2),(1000,1)] 0) .ret)) .skip)) (.trim [4,7] (.seq (.ops [ln 19 3 7,⟨none,none,(.store 3 (.t 4) (.t 19))⟩,mk 5 (ki 0)]) (.keep (kp [(4,0),(5,0)] [(0,2),(3,1)] 0) .ret)))))),[.cell 4 (some 3),.t 5]⟩
abbrev g39_S:=Sys.on [(31,g45_r)] []
def impl_Pager_header (a_p:K1) (a_at:Int):Option (K2 × Int):=(impl_Pager_chain a_p a_at).bind fun r1=>if ¬(r1.2.2 = true) then some ((0,0,([]:List (Int × Int × Str))),10) else some (r1.2.1,0)
@[simp] def g39_O:(K2 × Int) → TV × List Blk:=fun r=>((.tup [(.agg [(.int .i64 r.1.1),(.int .i64 r.1.2.1),(ow 1 r.1.2.2.length)]),(.int .i64 r.2)]),[(.live 3 [[(.int .i64 r.1.1),(.int .i64 r.1.2.1),(ow 1 r.1.2.2.length)]]),(ob 3 r.1.2.2)])
def g39_E (a:K1 × Int × List TV):List TV:=[(.vp ((.vs (rows a.1.1.1))::(.vs (rows a.1.1.2.1))::(.int .i64 a.1.1.2.2.1)::(.bool a.1.1.2.2.2)::(.int .i64 a.1.2.1.1)::(.int .i64 a.1.2.1.2.1)::(.int .i64 a.1.2.1.2.2.1)::(.int .i64 a.1.2.1.2.2.2)::(.int .i64 a.1.2.2.1)::(.int .i64 a.1.2.2.2.1)::(.vs (rows a.1.2.2.2.2.1))::(.vs (rows a.1.2.2.2.2.2))::a.2.2)),(.int .i64 a.2.1)]
theorem g39_run (a_p:K1) (a_at:Int) (q0:List TV):callFn (X g39_S) g39_tf (g39_E (a_p,a_at,q0)) [] = (impl_Pager_header a_p a_at).map g39_O:=by
  rw [callFn_eq]
  simp (maxSteps:=2000000) (maxDischargeDepth:=8) -implicitDefEqProofs [g39_tf,impl_Pager_header,g39_E] <;> (try simp only [map_to_bind,some_elim,g39_O])
def g39_r:Rule:=RlO g39_E (fun a=>impl_Pager_header a.1 a.2.1) g39_O
theorem g39_ok:RuleOk Tryz.prog 38 g39_r:=ok_rlo (S:=g39_S) (tf:=g39_tf) (SysOk.on ⟨g45_ok,trivial⟩ trivial) (trE_ok (ks:=[]) Tryz.func38 (by kernel_rfl)) fun a=>g39_run a.1 a.2.1 a.2.2
@[simp] theorem g39_app (y0 y1 y2 y3 y4 y5 y6 y7 y8 y9 y10 y11 y12)(q0:List TV):g39_r [(.vp ((.vs (rows y0))::(.vs (rows y1))::(.int .i64 y2)::(.bool y3)::(.int .i64 y4)::(.int .i64 y5)::(.int .i64 y6)::(.int .i64 y7)::(.int .i64 y8)::(.int .i64 y9)::(.vs (rows y10))::(.vs (rows y11))::q0)),(.int .i64 y12)] = (impl_Pager_header (((y0,y1,y2,y3),(y4,y5,y6,y7),y8,y9,y10,y11)) y12).map g39_O :=
  RlO_app (enc:=g39_E) (by intro a b h; simp [g39_E,Prod.ext_iff] at h ⊢; simp [h]) (((y0,y1,y2,y3),(y4,y5,y6,y7),y8,y9,y10,y11),y12,q0)
/-! impl.ReadHeader -/
def g56_tf:TFn:=⟨(sq [bx 2 0,oo 4 (.alloc [(.int .i64 0),(.int .i64 0),.nils]),mk 5 (ki 0)] [1,2,4] (.seq (sq [ln 6 12 2,ca 7 30 [.t 6],nt 8 7] [1,2,4,8] (.cond (.t 8) (.seq (.ops [oo 9 (.build [(.int .i64 0),(.int .i64 0),.nils] []),⟨none,none,(.store 3 (.t 4) (.t 9))⟩,mk 5 (ki 1)]) (.keep (kp [(4,0),(5,0)] [(1,2),(1000,1)] 0) .ret)) .skip)) (.trim [1,2,4] (.seq (.ops [mo 10 1,ca 11 38 [.t 2,.t 10],oo 12 (.ext (.t 11) 0),oo 13 (.ext (.t 11) 1),⟨none,none,(.store 3 (.t 4) (.t 12))⟩,mo 5 13]) (.keep (kp [(4,0),(5,0)] [(1,2),(3,1)] 0) .ret))))),[.cell 4 (some 3),.t 5]⟩
abbrev g56_S:=Sys.on [(30,g52_r),(38,g39_r)] []
def impl_ReadHeader (a_p:K1) (a_at:Int):Option (K2 × Int):=(impl_ValidPager a_p).bind fun r1=>if ¬(r1 = true) then some ((0,0,([]:List (Int × Int × Str))),1) else (impl_Pager_header a_p a_at).bind fun r2=>some (r2.1,r2.2)
@[simp] def g56_O:(K2 × Int) → TV × List Blk:=fun r=>((.tup [(.agg [(.int .i64 r.1.1),(.int .i64 r.1.2.1),(ow 1 r.1.2.2.length)]),(.int .i64 r.2)]),[(.live 3 [[(.int .i64 r.1.1),(.int .i64 r.1.2.1),(ow 1 r.1.2.2.length)]]),(ob 3 r.1.2.2)])
def g56_E (a:K1 × Int):List TV:=[(.agg [(.vs (rows a.1.1.1)),(.vs (rows a.1.1.2.1)),(.int .i64 a.1.1.2.2.1),(.bool a.1.1.2.2.2),(.int .i64 a.1.2.1.1),(.int .i64 a.1.2.1.2.1),(.int .i64 a.1.2.1.2.2.1),(.int .i64 a.1.2.1.2.2.2),(.int .i64 a.1.2.2.1),(.int .i64 a.1.2.2.2.1),(.vs (rows a.1.2.2.2.2.1)),(.vs (rows a.1.2.2.2.2.2))]),(.int .i64 a.2)]
theorem g56_run (a_p:K1) (a_at:Int) :callFn (X g56_S) g56_tf (g56_E (a_p,a_at)) [] = (impl_ReadHeader a_p a_at).map g56_O:=by
  rw [callFn_eq]
  simp (maxSteps:=2000000) (maxDischargeDepth:=8) -implicitDefEqProofs [g56_tf,impl_ReadHeader,g56_E] <;> (try simp only [map_to_bind,some_elim,g56_O])
def g56_r:Rule:=RlO g56_E (fun a=>impl_ReadHeader a.1 a.2) g56_O
theorem g56_ok:RuleOk Tryz.prog 16 g56_r:=ok_rlo (S:=g56_S) (tf:=g56_tf) (SysOk.on ⟨g52_ok,g39_ok,trivial⟩ trivial) (trE_ok (ks:=[]) Tryz.func16 (by kernel_rfl)) fun a=>g56_run a.1 a.2
@[simp] theorem g56_app (y0 y1 y2 y3 y4 y5 y6 y7 y8 y9 y10 y11 y12):g56_r [(.agg [(.vs (rows y0)),(.vs (rows y1)),(.int .i64 y2),(.bool y3),(.int .i64 y4),(.int .i64 y5),(.int .i64 y6),(.int .i64 y7),(.int .i64 y8),(.int .i64 y9),(.vs (rows y10)),(.vs (rows y11))]),(.int .i64 y12)] = (impl_ReadHeader (((y0,y1,y2,y3),(y4,y5,y6,y7),y8,y9,y10,y11)) y12).map g56_O :=
  RlO_app (enc:=g56_E) (by intro a b h; simp [g56_E,Prod.ext_iff] at h ⊢; simp [h]) (((y0,y1,y2,y3),(y4,y5,y6,y7),y8,y9,y10,y11),y12)
/-! laws.eqMessage -/
def g71_tf:TFn:=⟨(sq [bx 2 0,bx 3 1,mk 4 (kb false)] [2,3] (.seq (sq [fa 5 0 2,ld 6 5,fa 7 0 3,ld 8 7,bn 9 .neq (.t 6) (.t 8)] [2,3,9] (.cond (.t 9) (.seq (.ops [mk 4 (kb false)]) (.keep (kp [(4,0)] [] 0) .ret)) .skip)) (.trim [2,3] (.seq (sq [fa 10 1 2,ld 11 10,fa 12 1 3,ld 13 12,bn 14 .neq (.t 11) (.t 13)] [2,3,14] (.cond (.t 14) (.seq (.ops [mk 4 (kb false)]) (.keep (kp [(4,0)] [] 0) .ret)) .skip)) (.trim [2,3] (.seq (sq [fa 15 2 2,ld 16 15,fa 17 2 3,ld 18 17,oo 19 (.bin .str .neq (.t 16) (.t 18))] [19] (.cond (.t 19) (.seq (.ops [mk 4 (kb false)]) (.keep (kp [(4,0)] [] 0) .ret)) .skip)) (.trim [] (.seq (.ops [mk 4 (kb true)]) (.keep (kp [(4,0)] [] 0) .ret))))))))),[.t 4]⟩
abbrev g71_S:=Sys.on [] []
def laws_eqMessage (a_a:Int × Int × Str) (a_b:Int × Int × Str):Option (Bool):=if ¬(a_a.1 = a_b.1) then some false else if ¬(a_a.2.1 = a_b.2.1) then some false else if ¬(a_a.2.2 = a_b.2.2) then some false else some true
@[simp] def g71_O:Bool → TV × List Blk:=fun r=>((.bool r),[])
def g71_E (a:(Int × Int × Str) × (Int × Int × Str)):List TV:=[(.agg [(.int .i64 a.1.1),(.int .i64 a.1.2.1),(.str a.1.2.2)]),(.agg [(.int .i64 a.2.1),(.int .i64 a.2.2.1),(.str a.2.2.2)])]
theorem g71_run (a_a:Int × Int × Str) (a_b:Int × Int × Str) :callFn (X g71_S) g71_tf (g71_E (a_a,a_b)) [] = (laws_eqMessage a_a a_b).map g71_O:=by
  rw [callFn_eq]
  simp (maxSteps:=2000000) (maxDischargeDepth:=8) -implicitDefEqProofs [g71_tf,laws_eqMessage,g71_E] <;> (try simp only [map_to_bind,some_elim,g71_O])
def g71_r:Rule:=RlO g71_E (fun a=>laws_eqMessage a.1 a.2) g71_O
theorem g71_ok:RuleOk Tryz.prog 85 g71_r:=ok_rlo (S:=g71_S) (tf:=g71_tf) (SysOk.on trivial trivial) (trE_ok (ks:=[]) Tryz.func85 (by kernel_rfl)) fun a=>g71_run a.1 a.2
@[simp] theorem g71_app (y0 y1 y2 y3 y4 y5):g71_r [(.agg [(.int .i64 y0),(.int .i64 y1),(.str y2)]),(.agg [(.int .i64 y3),(.int .i64 y4),(.str y5)])] = (laws_eqMessage ((y0,y1,y2)) ((y3,y4,y5))).map g71_O :=
  RlO_app (enc:=g71_E) (by intro a b h; simp [g71_E,Prod.ext_iff] at h ⊢; simp [h]) ((y0,y1,y2),(y3,y4,y5))
/-! laws.eqMessageS -/
def g57l1_cb:TC:=(.seq (sq [mo 11 5,mo 12 0,le 13 12,bn 14 .lss (.t 11) (.t 13)] [0,1,5,14] (.cond (.t 14) .skip (.keep (kp [] [] 0) (.exit 0)))) (.trim [0,1,5] (.seq (.block 1 (.seq (.draw [([],mo 17 0),([],mo 18 5),([0,1],ia 19 3 17 18),([0,1,2],ln 20 3 19),([],mo 21 1),([],mo 22 5),([4,5],ia 23 3 21 22),([4,5,6],ln 24 3 23)] [ca 25 85 [.t 20,.t 24],nt 26 25]) (.trim [0,1,5,26] (.cond (.t 26) (.seq (.ops [mk 4 (kb false)]) (.keep (kp [(4,0)] [] 0) .ret)) .skip)))) (.trim [0,1,5] (.after (.ops [mo 15 5,bn 16 .add (.t 15) (ki 1),mo 5 16]) (kp [(0,0),(1,0),(5,0)] [] 0))))))
def g57l1_c:TC:=.loop [0,1,5] g57l1_cb
def g57_tf:TFn:=⟨(sq [mk 4 (kb false)] [0,1] (.seq (sq [mo 6 0,le 7 6,mo 8 1,le 9 8,bn 10 .neq (.t 7) (.t 9)] [0,1,10] (.cond (.t 10) (.seq (.ops [mk 4 (kb false)]) (.keep (kp [(4,0)] [] 0) .ret)) .skip)) (.trim [0,1] (.seq (sq [mk 5 (ki 0)] [0,1,5] (.block 0 (.keep (kp [(0,0),(1,0),(5,0)] [] 0) g57l1_c))) (.trim [] (.seq (.ops [mk 4 (kb true)]) (.keep (kp [(4,0)] [] 0) .ret))))))),[.t 4]⟩
abbrev g57_S:=Sys.on [(85,g71_r)] []
@[reducible,simp] def g57l1_F:((Unit) ⊕ (Bool)) → Out:=(Sum.elim (fun t=>(.ext 0,[],[])) (fun t=>(.ret,[(4,(.bool t))],[])))
def laws_eqMessageS_l1_b (v1:List (Int × Int × Str)) (v2:List (Int × Int × Str)) (v3:Int):Option ((Int) ⊕ ((Unit) ⊕ (Bool))):=if v3 < (v1.length:Int) then if 0 ≤ v3 then (v1[(v3).toNat]?).bind fun x4=>if 0 ≤ v3 then (v2[(v3).toNat]?).bind fun x5=>(laws_eqMessage x4 x5).bind fun r6=>if ¬(r6 = true) then some (.inr (.inr false)) else some (.inl ((IntKind.i64.wrap (v3 + 1)))) else none else none else some (.inr (.inl ()))
theorem g57l1_b_eq  (v1:List (Int × Int × Str)) (v2:List (Int × Int × Str)) (v3:Int):X g57_S g57l1_cb (keepEnv [0,1,5] [(0,(.vs (rows v1))),(1,(.vs (rows v2))),(5,(.int .i64 v3))]) [] = (laws_eqMessageS_l1_b v1 v2 v3).map (Sum.elim (fun s=>(TX.nrm,[(0,(.vs (rows v1))),(1,(.vs (rows v2))),(5,(.int .i64 s))],[])) g57l1_F):=by
  simp (maxSteps:=2000000) (maxDischargeDepth:=8) -implicitDefEqProofs [g57l1_cb,laws_eqMessageS_l1_b] <;> (try simp only [map_to_bind,some_elim,g57l1_F])
def laws_eqMessageS_l1 (v1:List (Int × Int × Str)) (v2:List (Int × Int × Str)) (s:Int):Option ((Unit) ⊕ (Bool)):=loopO (fun s=>laws_eqMessageS_l1_b v1 v2 s) s
@[simp] theorem g57l1_eq (y0 y1 y2):X g57_S g57l1_c [(0,(.vs (rows y0))),(1,(.vs (rows y1))),(5,(.int .i64 y2))] [] = (laws_eqMessageS_l1 y0 y1 y2).map g57l1_F:=by
  exact loop_X _ _ _ _ (by intro r; first | (simp; done) | (rcases r with r | r <;> simp; done) | (rcases r with r | r | r <;> simp; done) | (rcases r with r | r | r | r <;> simp)) (fun s=>g57l1_b_eq  y0 y1 s) y2
def laws_eqMessageS (a_a:List (Int × Int × Str)) (a_b:List (Int × Int × Str)):Option (Bool):=if ¬((a_a.length:Int) = (a_b.length:Int)) then some false else (laws_eqMessageS_l1 a_a a_b 0).bind fun r7=>Sum.elim (fun u8=>some true) (fun u9=>some u9) r7
@[simp] def g57_O:Bool → TV × List Blk:=fun r=>((.bool r),[])
def g57_E (a:(List (Int × Int × Str)) × (List (Int × Int × Str))):List TV:=[(.vs (rows a.1)),(.vs (rows a.2))]
theorem g57_run (a_a:List (Int × Int × Str)) (a_b:List (Int × Int × Str)) :callFn (X g57_S) g57_tf (g57_E (a_a,a_b)) [] = (laws_eqMessageS a_a a_b).map g57_O:=by
  rw [callFn_eq]
  simp (maxSteps:=2000000) (maxDischargeDepth:=8) -implicitDefEqProofs [g57_tf,laws_eqMessageS,g57_E] <;> (try simp only [map_to_bind,some_elim,g57_O])
def g57_r:Rule:=RlO g57_E (fun a=>laws_eqMessageS a.1 a.2) g57_O
theorem g57_ok:RuleOk Tryz.prog 39 g57_r:=ok_rlo (S:=g57_S) (tf:=g57_tf) (SysOk.on ⟨g71_ok,trivial⟩ trivial) (trE_ok (ks:=[[0,1,5],[8]]) Tryz.func39 (by kernel_rfl)) fun a=>g57_run a.1 a.2
@[simp] theorem g57_app (y0 y1):g57_r [(.vs (rows y0)),(.vs (rows y1))] = (laws_eqMessageS y0 y1).map g57_O :=
  RlO_app (enc:=g57_E) (by intro a b h; simp [g57_E,Prod.ext_iff] at h ⊢; simp [h]) (y0,y1)
/-! laws.eqHeader -/
def g78_tf:TFn:=⟨(sq [bx 2 0,bx 3 1,mk 4 (kb false)] [2,3] (.seq (sq [fa 5 0 2,ld 6 5,fa 7 0 3,ld 8 7,bn 9 .neq (.t 6) (.t 8)] [2,3,9] (.cond (.t 9) (.seq (.ops [mk 4 (kb false)]) (.keep (kp [(4,0)] [] 0) .ret)) .skip)) (.trim [2,3] (.seq (sq [fa 10 1 2,ld 11 10,fa 12 1 3,ld 13 12,bn 14 .neq (.t 11) (.t 13)] [2,3,14] (.cond (.t 14) (.seq (.ops [mk 4 (kb false)]) (.keep (kp [(4,0)] [] 0) .ret)) .skip)) (.trim [2,3] (.seq (sq [fa 15 2 2,ld 16 15,fa 17 2 3,ld 18 17,ca 19 39 [.t 16,.t 18],nt 20 19] [20] (.cond (.t 20) (.seq (.ops [mk 4 (kb false)]) (.keep (kp [(4,0)] [] 0) .ret)) .skip)) (.trim [] (.seq (.ops [mk 4 (kb true)]) (.keep (kp [(4,0)] [] 0) .ret))))))))),[.t 4]⟩
abbrev g78_S:=Sys.on [(39,g57_r)] []
def laws_eqHeader (a_a:K2) (a_b:K2):Option (Bool):=if ¬(a_a.1 = a_b.1) then some false else if ¬(a_a.2.1 = a_b.2.1) then some false else (laws_eqMessageS a_a.2.2 a_b.2.2).bind fun r1=>if ¬(r1 = true) then some false else some true
@[simp] def g78_O:Bool → TV × List Blk:=fun r=>((.bool r),[])
def g78_E (a:K2 × K2):List TV:=[(.agg [(.int .i64 a.1.1),(.int .i64 a.1.2.1),(.vs (rows a.1.2.2))]),(.agg [(.int .i64 a.2.1),(.int .i64 a.2.2.1),(.vs (rows a.2.2.2))])]
theorem g78_run (a_a:K2) (a_b:K2) :callFn (X g78_S) g78_tf (g78_E (a_a,a_b)) [] = (laws_eqHeader a_a a_b).map g78_O:=by
  rw [callFn_eq]
  simp (maxSteps:=2000000) (maxDischargeDepth:=8) -implicitDefEqProofs [g78_tf,laws_eqHeader,g78_E] <;> (try simp only [map_to_bind,some_elim,g78_O])
def g78_r:Rule:=RlO g78_E (fun a=>laws_eqHeader a.1 a.2) g78_O
theorem g78_ok:RuleOk Tryz.prog 17 g78_r:=ok_rlo (S:=g78_S) (tf:=g78_tf) (SysOk.on ⟨g57_ok,trivial⟩ trivial) (trE_ok (ks:=[]) Tryz.func17 (by kernel_rfl)) fun a=>g78_run a.1 a.2
@[simp] theorem g78_app (y0 y1 y2 y3 y4 y5):g78_r [(.agg [(.int .i64 y0),(.int .i64 y1),(.vs (rows y2))]),(.agg [(.int .i64 y3),(.int .i64 y4),(.vs (rows y5))])] = (laws_eqHeader ((y0,y1,y2)) ((y3,y4,y5))).map g78_O :=
  RlO_app (enc:=g78_E) (by intro a b h; simp [g78_E,Prod.ext_iff] at h ⊢; simp [h]) ((y0,y1,y2),(y3,y4,y5))
/-! laws.eqStringS -/
def g72l1_cb:TC:=(.seq (sq [mo 11 5,mo 12 0,le 13 12,bn 14 .lss (.t 11) (.t 13)] [0,1,5,14] (.cond (.t 14) .skip (.keep (kp [] [] 0) (.exit 0)))) (.trim [0,1,5] (.seq (.block 1 (.seq (.draw [([],mo 17 0),([],mo 18 5),([0,1],ia 19 1 17 18),([0,1,2],ld 20 19),([],mo 21 1),([],mo 22 5),([4,5],ia 23 1 21 22),([4,5,6],ld 24 23)] [oo 25 (.bin .str .neq (.t 20) (.t 24))]) (.trim [0,1,5,25] (.cond (.t 25) (.seq (.ops [mk 4 (kb false)]) (.keep (kp [(4,0)] [] 0) .ret)) .skip)))) (.trim [0,1,5] (.after (.ops [mo 15 5,bn 16 .add (.t 15) (ki 1),mo 5 16]) (kp [(0,0),(1,0),(5,0)] [] 0))))))
def g72l1_c:TC:=.loop [0,1,5] g72l1_cb
def g72_tf:TFn:=⟨(sq [mk 4 (kb false)] [0,1] (.seq (sq [mo 6 0,le 7 6,mo 8 1,le 9 8,bn 10 .neq (.t 7) (.t 9)] [0,1,10] (.cond (.t 10) (.seq (.ops [mk 4 (kb false)]) (.keep (kp [(4,0)] [] 0) .ret)) .skip)) (.trim [0,1] (.seq (sq [mk 5 (ki 0)] [0,1,5] (.block 0 (.keep (kp [(0,0),(1,0),(5,0)] [] 0) g72l1_c))) (.trim [] (.seq (.ops [mk 4 (kb true)]) (.keep (kp [(4,0)] [] 0) .ret))))))),[.t 4]⟩
abbrev g72_S:=Sys.on [] []
@[reducible,simp] def g72l1_F:((Unit) ⊕ (Bool)) → Out:=(Sum.elim (fun t=>(.ext 0,[],[])) (fun t=>(.ret,[(4,(.bool t))],[])))
def laws_eqStringS_l1_b (v1:List Str) (v2:List Str) (v3:Int):Option ((Int) ⊕ ((Unit) ⊕ (Bool))):=if v3 < (v1.length:Int) then if 0 ≤ v3 then (v1[(v3).toNat]?).bind fun x4=>if 0 ≤ v3 then (v2[(v3).toNat]?).bind fun x5=>if ¬(x4 = x5) then some (.inr (.inr false)) else some (.inl ((IntKind.i64.wrap (v3 + 1)))) else none else none else some (.inr (.inl ()))
theorem g72l1_b_eq  (v1:List Str) (v2:List Str) (v3:Int):X g72_S g72l1_cb (keepEnv [0,1,5] [(0,(.vs (rows v1))),(1,(.vs (rows v2))),(5,(.int .i64 v3))]) [] = (laws_eqStringS_l1_b v1 v2 v3).map (Sum.elim (fun s=>(TX.nrm,[(0,(.vs (rows v1))),(1,(.vs (rows v2))),(5,(.int .i64 s))],[])) g72l1_F):=by
  simp (maxSteps:=2000000) (maxDischargeDepth:=8) -implicitDefEqProofs [g72l1_cb,laws_eqStringS_l1_b] <;> (try simp only [map_to_bind,some_elim,g72l1_F])
def laws_eqStringS_l1 (v1:List Str) (v2:List Str) (s:Int):Option ((Unit) ⊕ (Bool)):=loopO (fun s=>laws_eqStringS_l1_b v1 v2 s) s
@[simp] theorem g72l1_eq (y0 y1 y2):X g72_S g72l1_c [(0,(.vs (rows y0))),(1,(.vs (rows y1))),(5,(.int .i64 y2))] [] = (laws_eqStringS_l1 y0 y1 y2).map g72l1_F:=by
  exact loop_X _ _ _ _ (by intro r; first | (simp; done) | (rcases r with r | r <;> simp; done) | (rcases r with r | r | r <;> simp; done) | (rcases r with r | r | r | r <;> simp)) (fun s=>g72l1_b_eq  y0 y1 s) y2
def laws_eqStringS (a_a:List Str) (a_b:List Str):Option (Bool):=if ¬((a_a.length:Int) = (a_b.length:Int)) then some false else (laws_eqStringS_l1 a_a a_b 0).bind fun r6=>Sum.elim (fun u7=>some true) (fun u8=>some u8) r6
@[simp] def g72_O:Bool → TV × List Blk:=fun r=>((.bool r),[])
def g72_E (a:List Str × List Str):List TV:=[(.vs (rows a.1)),(.vs (rows a.2))]
theorem g72_run (a_a:List Str) (a_b:List Str) :callFn (X g72_S) g72_tf (g72_E (a_a,a_b)) [] = (laws_eqStringS a_a a_b).map g72_O:=by
  rw [callFn_eq]
  simp (maxSteps:=2000000) (maxDischargeDepth:=8) -implicitDefEqProofs [g72_tf,laws_eqStringS,g72_E] <;> (try simp only [map_to_bind,some_elim,g72_O])
def g72_r:Rule:=RlO g72_E (fun a=>laws_eqStringS a.1 a.2) g72_O
theorem g72_ok:RuleOk Tryz.prog 79 g72_r:=ok_rlo (S:=g72_S) (tf:=g72_tf) (SysOk.on trivial trivial) (trE_ok (ks:=[[0,1,5],[8]]) Tryz.func79 (by kernel_rfl)) fun a=>g72_run a.1 a.2
@[simp] theorem g72_app (y0 y1):g72_r [(.vs (rows y0)),(.vs (rows y1))] = (laws_eqStringS y0 y1).map g72_O :=
  RlO_app (enc:=g72_E) (by intro a b h; simp [g72_E,Prod.ext_iff] at h ⊢; simp [h]) (y0,y1)
/-! laws.eqPut -/
def g121_tf:TFn:=⟨(sq [bx 2 0,bx 3 1,mk 4 (kb false)] [2,3] (.seq (sq [fa 5 0 2,ld 6 5,fa 7 0 3,ld 8 7,bn 9 .neq (.t 6) (.t 8)] [2,3,9] (.cond (.t 9) (.seq (.ops [mk 4 (kb false)]) (.keep (kp [(4,0)] [] 0) .ret)) .skip)) (.trim [2,3] (.seq (sq [fa 10 1 2,ld 11 10,fa 12 1 3,ld 13 12,oo 14 (.bin .str .neq (.t 11) (.t 13))] [14] (.cond (.t 14) (.seq (.ops [mk 4 (kb false)]) (.keep (kp [(4,0)] [] 0) .ret)) .skip)) (.trim [] (.seq (.ops [mk 4 (kb true)]) (.keep (kp [(4,0)] [] 0) .ret))))))),[.t 4]⟩
abbrev g121_S:=Sys.on [] []
def laws_eqPut (a_a:Int × Str) (a_b:Int × Str):Option (Bool):=if ¬(a_a.1 = a_b.1) then some false else if ¬(a_a.2 = a_b.2) then some false else some true
@[simp] def g121_O:Bool → TV × List Blk:=fun r=>((.bool r),[])
def g121_E (a:(Int × Str) × (Int × Str)):List TV:=[(.agg [(.int .i64 a.1.1),(.str a.1.2)]),(.agg [(.int .i64 a.2.1),(.str a.2.2)])]
theorem g121_run (a_a:Int × Str) (a_b:Int × Str) :callFn (X g121_S) g121_tf (g121_E (a_a,a_b)) [] = (laws_eqPut a_a a_b).map g121_O:=by
  rw [callFn_eq]
  simp (maxSteps:=2000000) (maxDischargeDepth:=8) -implicitDefEqProofs [g121_tf,laws_eqPut,g121_E] <;> (try simp only [map_to_bind,some_elim,g121_O])
def g121_r:Rule:=RlO g121_E (fun a=>laws_eqPut a.1 a.2) g121_O
theorem g121_ok:RuleOk Tryz.prog 125 g121_r:=ok_rlo (S:=g121_S) (tf:=g121_tf) (SysOk.on trivial trivial) (trE_ok (ks:=[]) Tryz.func125 (by kernel_rfl)) fun a=>g121_run a.1 a.2
@[simp] theorem g121_app (y0 y1 y2 y3):g121_r [(.agg [(.int .i64 y0),(.str y1)]),(.agg [(.int .i64 y2),(.str y3)])] = (laws_eqPut ((y0,y1)) ((y2,y3))).map g121_O :=
  RlO_app (enc:=g121_E) (by intro a b h; simp [g121_E,Prod.ext_iff] at h ⊢; simp [h]) ((y0,y1),(y2,y3))
/-! laws.eqPutS -/
def g112l1_cb:TC:=(.seq (sq [mo 11 5,mo 12 0,le 13 12,bn 14 .lss (.t 11) (.t 13)] [0,1,5,14] (.cond (.t 14) .skip (.keep (kp [] [] 0) (.exit 0)))) (.trim [0,1,5] (.seq (.block 1 (.seq (.draw [([],mo 17 0),([],mo 18 5),([0,1],ia 19 2 17 18),([0,1,2],ln 20 2 19),([],mo 21 1),([],mo 22 5),([4,5],ia 23 2 21 22),([4,5,6],ln 24 2 23)] [ca 25 125 [.t 20,.t 24],nt 26 25]) (.trim [0,1,5,26] (.cond (.t 26) (.seq (.ops [mk 4 (kb false)]) (.keep (kp [(4,0)] [] 0) .ret)) .skip)))) (.trim [0,1,5] (.after (.ops [mo 15 5,bn 16 .add (.t 15) (ki 1),mo 5 16]) (kp [(0,0),(1,0),(5,0)] [] 0))))))
def g112l1_c:TC:=.loop [0,1,5] g112l1_cb
def g112_tf:TFn:=⟨(sq [mk 4 (kb false)] [0,1] (.seq (sq [mo 6 0,le 7 6,mo 8 1,le 9 8,bn 10 .neq (.t 7) (.t 9)] [0,1,10] (.cond (.t 10) (.seq (.ops [mk 4 (kb false)]) (.keep (kp [(4,0)] [] 0) .ret)) .skip)) (.trim [0,1] (.seq (sq [mk 5 (ki 0)] [0,1,5] (.block 0 (.keep (kp [(0,0),(1,0),(5,0)] [] 0) g112l1_c))) (.trim [] (.seq (.ops [mk 4 (kb true)]) (.keep (kp [(4,0)] [] 0) .ret))))))),[.t 4]⟩
abbrev g112_S:=Sys.on [(125,g121_r)] []
@[reducible,simp] def g112l1_F:((Unit) ⊕ (Bool)) → Out:=(Sum.elim (fun t=>(.ext 0,[],[])) (fun t=>(.ret,[(4,(.bool t))],[])))
def laws_eqPutS_l1_b (v1:List (Int × Str)) (v2:List (Int × Str)) (v3:Int):Option ((Int) ⊕ ((Unit) ⊕ (Bool))):=if v3 < (v1.length:Int) then if 0 ≤ v3 then (v1[(v3).toNat]?).bind fun x4=>if 0 ≤ v3 then (v2[(v3).toNat]?).bind fun x5=>(laws_eqPut x4 x5).bind fun r6=>if ¬(r6 = true) then some (.inr (.inr false)) else some (.inl ((IntKind.i64.wrap (v3 + 1)))) else none else none else some (.inr (.inl ()))
theorem g112l1_b_eq  (v1:List (Int × Str)) (v2:List (Int × Str)) (v3:Int):X g112_S g112l1_cb (keepEnv [0,1,5] [(0,(.vs (rows v1))),(1,(.vs (rows v2))),(5,(.int .i64 v3))]) [] = (laws_eqPutS_l1_b v1 v2 v3).map (Sum.elim (fun s=>(TX.nrm,[(0,(.vs (rows v1))),(1,(.vs (rows v2))),(5,(.int .i64 s))],[])) g112l1_F):=by
  simp (maxSteps:=2000000) (maxDischargeDepth:=8) -implicitDefEqProofs [g112l1_cb,laws_eqPutS_l1_b] <;> (try simp only [map_to_bind,some_elim,g112l1_F])
def laws_eqPutS_l1 (v1:List (Int × Str)) (v2:List (Int × Str)) (s:Int):Option ((Unit) ⊕ (Bool)):=loopO (fun s=>laws_eqPutS_l1_b v1 v2 s) s
@[simp] theorem g112l1_eq (y0 y1 y2):X g112_S g112l1_c [(0,(.vs (rows y0))),(1,(.vs (rows y1))),(5,(.int .i64 y2))] [] = (laws_eqPutS_l1 y0 y1 y2).map g112l1_F:=by
  exact loop_X _ _ _ _ (by intro r; first | (simp; done) | (rcases r with r | r <;> simp; done) | (rcases r with r | r | r <;> simp; done) | (rcases r with r | r | r | r <;> simp)) (fun s=>g112l1_b_eq  y0 y1 s) y2
def laws_eqPutS (a_a:List (Int × Str)) (a_b:List (Int × Str)):Option (Bool):=if ¬((a_a.length:Int) = (a_b.length:Int)) then some false else (laws_eqPutS_l1 a_a a_b 0).bind fun r7=>Sum.elim (fun u8=>some true) (fun u9=>some u9) r7
@[simp] def g112_O:Bool → TV × List Blk:=fun r=>((.bool r),[])
def g112_E (a:(List (Int × Str)) × (List (Int × Str))):List TV:=[(.vs (rows a.1)),(.vs (rows a.2))]
theorem g112_run (a_a:List (Int × Str)) (a_b:List (Int × Str)) :callFn (X g112_S) g112_tf (g112_E (a_a,a_b)) [] = (laws_eqPutS a_a a_b).map g112_O:=by
  rw [callFn_eq]
  simp (maxSteps:=2000000) (maxDischargeDepth:=8) -implicitDefEqProofs [g112_tf,laws_eqPutS,g112_E] <;> (try simp only [map_to_bind,some_elim,g112_O])
def g112_r:Rule:=RlO g112_E (fun a=>laws_eqPutS a.1 a.2) g112_O
theorem g112_ok:RuleOk Tryz.prog 80 g112_r:=ok_rlo (S:=g112_S) (tf:=g112_tf) (SysOk.on ⟨g121_ok,trivial⟩ trivial) (trE_ok (ks:=[[0,1,5],[8]]) Tryz.func80 (by kernel_rfl)) fun a=>g112_run a.1 a.2
@[simp] theorem g112_app (y0 y1):g112_r [(.vs (rows y0)),(.vs (rows y1))] = (laws_eqPutS y0 y1).map g112_O :=
  RlO_app (enc:=g112_E) (by intro a b h; simp [g112_E,Prod.ext_iff] at h ⊢; simp [h]) (y0,y1)
/-! laws.eqDisk -/
def g113_tf:TFn:=⟨(sq [bx 2 0,bx 3 1,mk 4 (kb false)] [2,3] (.seq (sq [fa 5 0 2,ld 6 5,fa 7 0 3,ld 8 7,ca 9 79 [.t 6,.t 8],nt 10 9] [2,3,10] (.cond (.t 10) (.seq (.ops [mk 4 (kb false)]) (.keep (kp [(4,0)] [] 0) .ret)) .skip)) (.trim [2,3] (.seq (sq [fa 11 1 2,ld 12 11,fa 13 1 3,ld 14 13,ca 15 80 [.t 12,.t 14],nt 16 15] [2,3,16] (.cond (.t 16) (.seq (.ops [mk 4 (kb false)]) (.keep (kp [(4,0)] [] 0) .ret)) .skip)) (.trim [2,3] (.seq (sq [fa 17 2 2,ld 18 17,fa 19 2 3,ld 20 19,bn 21 .neq (.t 18) (.t 20)] [2,3,21] (.cond (.t 21) (.seq (.ops [mk 4 (kb false)]) (.keep (kp [(4,0)] [] 0) .ret)) .skip)) (.trim [2,3] (.seq (sq [fa 22 3 2,ld 23 22,fa 24 3 3,ld 25 24,oo 26 (.bin .bool .neq (.t 23) (.t 25))] [26] (.cond (.t 26) (.seq (.ops [mk 4 (kb false)]) (.keep (kp [(4,0)] [] 0) .ret)) .skip)) (.trim [] (.seq (.ops [mk 4 (kb true)]) (.keep (kp [(4,0)] [] 0) .ret))))))))))),[.t 4]⟩
abbrev g113_S:=Sys.on [(79,g72_r),(80,g112_r)] []
def laws_eqDisk (a_a:K0) (a_b:K0):Option (Bool):=(laws_eqStringS a_a.1 a_b.1).bind fun r1=>if ¬(r1 = true) then some false else (laws_eqPutS a_a.2.1 a_b.2.1).bind fun r2=>if ¬(r2 = true) then some false else if ¬(a_a.2.2.1 = a_b.2.2.1) then some false else if ((!(a_a.2.2.2 == a_b.2.2.2))) = true then some false else some true
@[simp] def g113_O:Bool → TV × List Blk:=fun r=>((.bool r),[])
def g113_E (a:K0 × K0):List TV:=[(.agg [(.vs (rows a.1.1)),(.vs (rows a.1.2.1)),(.int .i64 a.1.2.2.1),(.bool a.1.2.2.2)]),(.agg [(.vs (rows a.2.1)),(.vs (rows a.2.2.1)),(.int .i64 a.2.2.2.1),(.bool a.2.2.2.2)])]
theorem g113_run (a_a:K0) (a_b:K0) :callFn (X g113_S) g113_tf (g113_E (a_a,a_b)) [] = (laws_eqDisk a_a a_b).map g113_O:=by
  rw [callFn_eq]
  simp (maxSteps:=2000000) (maxDischargeDepth:=8) -implicitDefEqProofs [g113_tf,laws_eqDisk,g113_E] <;> (try simp only [map_to_bind,some_elim,g113_O])
def g113_r:Rule:=RlO g113_E (fun a=>laws_eqDisk a.1 a.2) g113_O
theorem g113_ok:RuleOk Tryz.prog 32 g113_r:=ok_rlo (S:=g113_S) (tf:=g113_tf) (SysOk.on ⟨g72_ok,g112_ok,trivial⟩ trivial) (trE_ok (ks:=[]) Tryz.func32 (by kernel_rfl)) fun a=>g113_run a.1 a.2
@[simp] theorem g113_app (y0 y1 y2 y3 y4 y5 y6 y7):g113_r [(.agg [(.vs (rows y0)),(.vs (rows y1)),(.int .i64 y2),(.bool y3)]),(.agg [(.vs (rows y4)),(.vs (rows y5)),(.int .i64 y6),(.bool y7)])] = (laws_eqDisk ((y0,y1,y2,y3)) ((y4,y5,y6,y7))).map g113_O :=
  RlO_app (enc:=g113_E) (by intro a b h; simp [g113_E,Prod.ext_iff] at h ⊢; simp [h]) ((y0,y1,y2,y3),(y4,y5,y6,y7))
/-! laws.eqSuper -/
def g97_tf:TFn:=⟨(sq [bx 2 0,bx 3 1,mk 4 (kb false)] [2,3] (.seq (sq [fa 5 0 2,ld 6 5,fa 7 0 3,ld 8 7,bn 9 .neq (.t 6) (.t 8)] [2,3,9] (.cond (.t 9) (.seq (.ops [mk 4 (kb false)]) (.keep (kp [(4,0)] [] 0) .ret)) .skip)) (.trim [2,3] (.seq (sq [fa 10 1 2,ld 11 10,fa 12 1 3,ld 13 12,bn 14 .neq (.t 11) (.t 13)] [2,3,14] (.cond (.t 14) (.seq (.ops [mk 4 (kb false)]) (.keep (kp [(4,0)] [] 0) .ret)) .skip)) (.trim [2,3] (.seq (sq [fa 15 2 2,ld 16 15,fa 17 2 3,ld 18 17,bn 19 .neq (.t 16) (.t 18)] [2,3,19] (.cond (.t 19) (.seq (.ops [mk 4 (kb false)]) (.keep (kp [(4,0)] [] 0) .ret)) .skip)) (.trim [2,3] (.seq (sq [fa 20 3 2,ld 21 20,fa 22 3 3,ld 23 22,bn 24 .neq (.t 21) (.t 23)] [24] (.cond (.t 24) (.seq (.ops [mk 4 (kb false)]) (.keep (kp [(4,0)] [] 0) .ret)) .skip)) (.trim [] (.seq (.ops [mk 4 (kb true)]) (.keep (kp [(4,0)] [] 0) .ret))))))))))),[.t 4]⟩
abbrev g97_S:=Sys.on [] []
def laws_eqSuper (a_a:Int × Int × Int × Int) (a_b:Int × Int × Int × Int):Option (Bool):=if ¬(a_a.1 = a_b.1) then some false else if ¬(a_a.2.1 = a_b.2.1) then some false else if ¬(a_a.2.2.1 = a_b.2.2.1) then some false else if ¬(a_a.2.2.2 = a_b.2.2.2) then some false else some true
@[simp] def g97_O:Bool → TV × List Blk:=fun r=>((.bool r),[])
def g97_E (a:(Int × Int × Int × Int) × (Int × Int × Int × Int)):List TV:=[(.agg [(.int .i64 a.1.1),(.int .i64 a.1.2.1),(.int .i64 a.1.2.2.1),(.int .i64 a.1.2.2.2)]),(.agg [(.int .i64 a.2.1),(.int .i64 a.2.2.1),(.int .i64 a.2.2.2.1),(.int .i64 a.2.2.2.2)])]
theorem g97_run (a_a:Int × Int × Int × Int) (a_b:Int × Int × Int × Int) :callFn (X g97_S) g97_tf (g97_E (a_a,a_b)) [] = (laws_eqSuper a_a a_b).map g97_O:=by
  rw [callFn_eq]
  simp (maxSteps:=2000000) (maxDischargeDepth:=8) -implicitDefEqProofs [g97_tf,laws_eqSuper,g97_E] <;> (try simp only [map_to_bind,some_elim,g97_O])
def g97_r:Rule:=RlO g97_E (fun a=>laws_eqSuper a.1 a.2) g97_O
theorem g97_ok:RuleOk Tryz.prog 33 g97_r:=ok_rlo (S:=g97_S) (tf:=g97_tf) (SysOk.on trivial trivial) (trE_ok (ks:=[]) Tryz.func33 (by kernel_rfl)) fun a=>g97_run a.1 a.2
@[simp] theorem g97_app (y0 y1 y2 y3 y4 y5 y6 y7):g97_r [(.agg [(.int .i64 y0),(.int .i64 y1),(.int .i64 y2),(.int .i64 y3)]),(.agg [(.int .i64 y4),(.int .i64 y5),(.int .i64 y6),(.int .i64 y7)])] = (laws_eqSuper ((y0,y1,y2,y3)) ((y4,y5,y6,y7))).map g97_O :=
  RlO_app (enc:=g97_E) (by intro a b h; simp [g97_E,Prod.ext_iff] at h ⊢; simp [h]) ((y0,y1,y2,y3),(y4,y5,y6,y7))
/-! laws.eqPage -/
def g114_tf:TFn:=⟨(sq [bx 2 0,bx 3 1,mk 4 (kb false)] [2,3] (.seq (sq [fa 5 0 2,ld 6 5,fa 7 0 3,ld 8 7,bn 9 .neq (.t 6) (.t 8)] [2,3,9] (.cond (.t 9) (.seq (.ops [mk 4 (kb false)]) (.keep (kp [(4,0)] [] 0) .ret)) .skip)) (.trim [2,3] (.seq (sq [fa 10 1 2,ld 11 10,fa 12 1 3,ld 13 12,oo 14 (.bin .str .neq (.t 11) (.t 13))] [14] (.cond (.t 14) (.seq (.ops [mk 4 (kb false)]) (.keep (kp [(4,0)] [] 0) .ret)) .skip)) (.trim [] (.seq (.ops [mk 4 (kb true)]) (.keep (kp [(4,0)] [] 0) .ret))))))),[.t 4]⟩
abbrev g114_S:=Sys.on [] []
def laws_eqPage (a_a:Int × Str) (a_b:Int × Str):Option (Bool):=if ¬(a_a.1 = a_b.1) then some false else if ¬(a_a.2 = a_b.2) then some false else some true
@[simp] def g114_O:Bool → TV × List Blk:=fun r=>((.bool r),[])
def g114_E (a:(Int × Str) × (Int × Str)):List TV:=[(.agg [(.int .i64 a.1.1),(.str a.1.2)]),(.agg [(.int .i64 a.2.1),(.str a.2.2)])]
theorem g114_run (a_a:Int × Str) (a_b:Int × Str) :callFn (X g114_S) g114_tf (g114_E (a_a,a_b)) [] = (laws_eqPage a_a a_b).map g114_O:=by
  rw [callFn_eq]
  simp (maxSteps:=2000000) (maxDischargeDepth:=8) -implicitDefEqProofs [g114_tf,laws_eqPage,g114_E] <;> (try simp only [map_to_bind,some_elim,g114_O])
def g114_r:Rule:=RlO g114_E (fun a=>laws_eqPage a.1 a.2) g114_O
theorem g114_ok:RuleOk Tryz.prog 81 g114_r:=ok_rlo (S:=g114_S) (tf:=g114_tf) (SysOk.on trivial trivial) (trE_ok (ks:=[]) Tryz.func81 (by kernel_rfl)) fun a=>g114_run a.1 a.2
@[simp] theorem g114_app (y0 y1 y2 y3):g114_r [(.agg [(.int .i64 y0),(.str y1)]),(.agg [(.int .i64 y2),(.str y3)])] = (laws_eqPage ((y0,y1)) ((y2,y3))).map g114_O :=
  RlO_app (enc:=g114_E) (by intro a b h; simp [g114_E,Prod.ext_iff] at h ⊢; simp [h]) ((y0,y1),(y2,y3))
/-! laws.eqPageS -/
def g98l1_cb:TC:=(.seq (sq [mo 11 5,mo 12 0,le 13 12,bn 14 .lss (.t 11) (.t 13)] [0,1,5,14] (.cond (.t 14) .skip (.keep (kp [] [] 0) (.exit 0)))) (.trim [0,1,5] (.seq (.block 1 (.seq (.draw [([],mo 17 0),([],mo 18 5),([0,1],ia 19 2 17 18),([0,1,2],ln 20 2 19),([],mo 21 1),([],mo 22 5),([4,5],ia 23 2 21 22),([4,5,6],ln 24 2 23)] [ca 25 81 [.t 20,.t 24],nt 26 25]) (.trim [0,1,5,26] (.cond (.t 26) (.seq (.ops [mk 4 (kb false)]) (.keep (kp [(4,0)] [] 0) .ret)) .skip)))) (.trim [0,1,5] (.after (.ops [mo 15 5,bn 16 .add (.t 15) (ki 1),mo 5 16]) (kp [(0,0),(1,0),(5,0)] [] 0))))))
def g98l1_c:TC:=.loop [0,1,5] g98l1_cb
def g98_tf:TFn:=⟨(sq [mk 4 (kb false)] [0,1] (.seq (sq [mo 6 0,le 7 6,mo 8 1,le 9 8,bn 10 .neq (.t 7) (.t 9)] [0,1,10] (.cond (.t 10) (.seq (.ops [mk 4 (kb false)]) (.keep (kp [(4,0)] [] 0) .ret)) .skip)) (.trim [0,1] (.seq (sq [mk 5 (ki 0)] [0,1,5] (.block 0 (.keep (kp [(0,0),(1,0),(5,0)] [] 0) g98l1_c))) (.trim [] (.seq (.ops [mk 4 (kb true)]) (.keep (kp [(4,0)] [] 0) .ret))))))),[.t 4]⟩
abbrev g98_S:=Sys.on [(81,g114_r)] []
@[reducible,simp] def g98l1_F:((Unit) ⊕ (Bool)) → Out:=(Sum.elim (fun t=>(.ext 0,[],[])) (fun t=>(.ret,[(4,(.bool t))],[])))
def laws_eqPageS_l1_b (v1:List (Int × Str)) (v2:List (Int × Str)) (v3:Int):Option ((Int) ⊕ ((Unit) ⊕ (Bool))):=if v3 < (v1.length:Int) then if 0 ≤ v3 then (v1[(v3).toNat]?).bind fun x4=>if 0 ≤ v3 then (v2[(v3).toNat]?).bind fun x5=>(laws_eqPage x4 x5).bind fun r6=>if ¬(r6 = true) then some (.inr (.inr false)) else some (.inl ((IntKind.i64.wrap (v3 + 1)))) else none else none else some (.inr (.inl ()))
theorem g98l1_b_eq  (v1:List (Int × Str)) (v2:List (Int × Str)) (v3:Int):X g98_S g98l1_cb (keepEnv [0,1,5] [(0,(.vs (rows v1))),(1,(.vs (rows v2))),(5,(.int .i64 v3))]) [] = (laws_eqPageS_l1_b v1 v2 v3).map (Sum.elim (fun s=>(TX.nrm,[(0,(.vs (rows v1))),(1,(.vs (rows v2))),(5,(.int .i64 s))],[])) g98l1_F):=by
  simp (maxSteps:=2000000) (maxDischargeDepth:=8) -implicitDefEqProofs [g98l1_cb,laws_eqPageS_l1_b] <;> (try simp only [map_to_bind,some_elim,g98l1_F])
def laws_eqPageS_l1 (v1:List (Int × Str)) (v2:List (Int × Str)) (s:Int):Option ((Unit) ⊕ (Bool)):=loopO (fun s=>laws_eqPageS_l1_b v1 v2 s) s
@[simp] theorem g98l1_eq (y0 y1 y2):X g98_S g98l1_c [(0,(.vs (rows y0))),(1,(.vs (rows y1))),(5,(.int .i64 y2))] [] = (laws_eqPageS_l1 y0 y1 y2).map g98l1_F:=by
  exact loop_X _ _ _ _ (by intro r; first | (simp; done) | (rcases r with r | r <;> simp; done) | (rcases r with r | r | r <;> simp; done) | (rcases r with r | r | r | r <;> simp)) (fun s=>g98l1_b_eq  y0 y1 s) y2
def laws_eqPageS (a_a:List (Int × Str)) (a_b:List (Int × Str)):Option (Bool):=if ¬((a_a.length:Int) = (a_b.length:Int)) then some false else (laws_eqPageS_l1 a_a a_b 0).bind fun r7=>Sum.elim (fun u8=>some true) (fun u9=>some u9) r7
@[simp] def g98_O:Bool → TV × List Blk:=fun r=>((.bool r),[])
def g98_E (a:(List (Int × Str)) × (List (Int × Str))):List TV:=[(.vs (rows a.1)),(.vs (rows a.2))]
theorem g98_run (a_a:List (Int × Str)) (a_b:List (Int × Str)) :callFn (X g98_S) g98_tf (g98_E (a_a,a_b)) [] = (laws_eqPageS a_a a_b).map g98_O:=by
  rw [callFn_eq]
  simp (maxSteps:=2000000) (maxDischargeDepth:=8) -implicitDefEqProofs [g98_tf,laws_eqPageS,g98_E] <;> (try simp only [map_to_bind,some_elim,g98_O])
def g98_r:Rule:=RlO g98_E (fun a=>laws_eqPageS a.1 a.2) g98_O
theorem g98_ok:RuleOk Tryz.prog 34 g98_r:=ok_rlo (S:=g98_S) (tf:=g98_tf) (SysOk.on ⟨g114_ok,trivial⟩ trivial) (trE_ok (ks:=[[0,1,5],[8]]) Tryz.func34 (by kernel_rfl)) fun a=>g98_run a.1 a.2
@[simp] theorem g98_app (y0 y1):g98_r [(.vs (rows y0)),(.vs (rows y1))] = (laws_eqPageS y0 y1).map g98_O :=
  RlO_app (enc:=g98_E) (by intro a b h; simp [g98_E,Prod.ext_iff] at h ⊢; simp [h]) (y0,y1)
/-! laws.eqPager -/
def g99_tf:TFn:=⟨(sq [bx 2 0,bx 3 1,mk 4 (kb false)] [2,3] (.seq (sq [fa 5 0 2,ln 6 4 5,fa 7 0 3,ln 8 4 7,ca 9 32 [.t 6,.t 8],nt 10 9] [2,3,10] (.cond (.t 10) (.seq (.ops [mk 4 (kb false)]) (.keep (kp [(4,0)] [] 0) .ret)) .skip)) (.trim [2,3] (.seq (sq [fa 11 4 2,ln 12 4 11,fa 13 4 3,ln 14 4 13,ca 15 33 [.t 12,.t 14],nt 16 15] [2,3,16] (.cond (.t 16) (.seq (.ops [mk 4 (kb false)]) (.keep (kp [(4,0)] [] 0) .ret)) .skip)) (.trim [2,3] (.seq (sq [fa 17 8 2,ld 18 17,fa 19 8 3,ld 20 19,bn 21 .neq (.t 18) (.t 20)] [2,3,21] (.cond (.t 21) (.seq (.ops [mk 4 (kb false)]) (.keep (kp [(4,0)] [] 0) .ret)) .skip)) (.trim [2,3] (.seq (sq [fa 22 9 2,ld 23 22,fa 24 9 3,ld 25 24,bn 26 .neq (.t 23) (.t 25)] [2,3,26] (.cond (.t 26) (.seq (.ops [mk 4 (kb false)]) (.keep (kp [(4,0)] [] 0) .ret)) .skip)) (.trim [2,3] (.seq (sq [fa 27 10 2,ld 28 27,fa 29 10 3,ld 30 29,ca 31 34 [.t 28,.t 30],nt 32 31] [2,3,32] (.cond (.t 32) (.seq (.ops [mk 4 (kb false)]) (.keep (kp [(4,0)] [] 0) .ret)) .skip)) (.trim [2,3] (.seq (sq [fa 33 11 2,ld 34 33,fa 35 11 3,ld 36 35,ca 37 34 [.t 34,.t 36],nt 38 37] [38] (.cond (.t 38) (.seq (.ops [mk 4 (kb false)]) (.keep (kp [(4,0)] [] 0) .ret)) .skip)) (.trim [] (.seq (.ops [mk 4 (kb true)]) (.keep (kp [(4,0)] [] 0) .ret))))))))))))))),[.t 4]⟩
abbrev g99_S:=Sys.on [(32,g113_r),(33,g97_r),(34,g98_r)] []
def laws_eqPager (a_a:K1) (a_b:K1):Option (Bool):=(laws_eqDisk a_a.1 a_b.1).bind fun r1=>if ¬(r1 = true) then some false else (laws_eqSuper a_a.2.1 a_b.2.1).bind fun r2=>if ¬(r2 = true) then some false else if ¬(a_a.2.2.1 = a_b.2.2.1) then some false else if ¬(a_a.2.2.2.1 = a_b.2.2.2.1) then some false else (laws_eqPageS a_a.2.2.2.2.1 a_b.2.2.2.2.1).bind fun r3=>if ¬(r3 = true) then some false else (laws_eqPageS a_a.2.2.2.2.2 a_b.2.2.2.2.2).bind fun r4=>if ¬(r4 = true) then some false else some true
@[simp] def g99_O:Bool → TV × List Blk:=fun r=>((.bool r),[])
def g99_E (a:K1 × K1):List TV:=[(.agg [(.vs (rows a.1.1.1)),(.vs (rows a.1.1.2.1)),(.int .i64 a.1.1.2.2.1),(.bool a.1.1.2.2.2),(.int .i64 a.1.2.1.1),(.int .i64 a.1.2.1.2.1),(.int .i64 a.1.2.1.2.2.1),(.int .i64 a.1.2.1.2.2.2),(.int .i64 a.1.2.2.1),(.int .i64 a.1.2.2.2.1),(.vs (rows a.1.2.2.2.2.1)),(.vs (rows a.1.2.2.2.2.2))]),(.agg [(.vs (rows a.2.1.1)),(.vs (rows a.2.1.2.1)),(.int .i64 a.2.1.2.2.1),(.bool a.2.1.2.2.2),(.int .i64 a.2.2.1.1),(.int .i64 a.2.2.1.2.1),(.int .i64 a.2.2.1.2.2.1),(.int .i64 a.2.2.1.2.2.2),(.int .i64 a.2.2.2.1),(.int .i64 a.2.2.2.2.1),(.vs (rows a.2.2.2.2.2.1)),(.vs (rows a.2.2.2.2.2.2))])]
theorem g99_run (a_a:K1) (a_b:K1) :callFn (X g99_S) g99_tf (g99_E (a_a,a_b)) [] = (laws_eqPager a_a a_b).map g99_O:=by
  rw [callFn_eq]
  simp (maxSteps:=2000000) (maxDischargeDepth:=8) -implicitDefEqProofs [g99_tf,laws_eqPager,g99_E] <;> (try simp only [map_to_bind,some_elim,g99_O])
def g99_r:Rule:=RlO g99_E (fun a=>laws_eqPager a.1 a.2) g99_O
theorem g99_ok:RuleOk Tryz.prog 11 g99_r:=ok_rlo (S:=g99_S) (tf:=g99_tf) (SysOk.on ⟨g113_ok,g97_ok,g98_ok,trivial⟩ trivial) (trE_ok (ks:=[]) Tryz.func11 (by kernel_rfl)) fun a=>g99_run a.1 a.2
@[simp] theorem g99_app (y0 y1 y2 y3 y4 y5 y6 y7 y8 y9 y10 y11 y12 y13 y14 y15 y16 y17 y18 y19 y20 y21 y22 y23):g99_r [(.agg [(.vs (rows y0)),(.vs (rows y1)),(.int .i64 y2),(.bool y3),(.int .i64 y4),(.int .i64 y5),(.int .i64 y6),(.int .i64 y7),(.int .i64 y8),(.int .i64 y9),(.vs (rows y10)),(.vs (rows y11))]),(.agg [(.vs (rows y12)),(.vs (rows y13)),(.int .i64 y14),(.bool y15),(.int .i64 y16),(.int .i64 y17),(.int .i64 y18),(.int .i64 y19),(.int .i64 y20),(.int .i64 y21),(.vs (rows y22)),(.vs (rows y23))])] = (laws_eqPager (((y0,y1,y2,y3),(y4,y5,y6,y7),y8,y9,y10,y11)) (((y12,y13,y14,y15),(y16,y17,y18,y19),y20,y21,y22,y23))).map g99_O :=
  RlO_app (enc:=g99_E) (by intro a b h; simp [g99_E,Prod.ext_iff] at h ⊢; simp [h]) (((y0,y1,y2,y3),(y4,y5,y6,y7),y8,y9,y10,y11),((y12,y13,y14,y15),(y16,y17,y18,y19),y20,y21,y22,y23))
/-! laws.markText -/
def g79l1_cb:TC:=(.seq (sq [mo 6 0,bn 7 .gtr (.t 6) (ki 0)] [0,3,7] (.cond (.t 7) .skip (.keep (kp [(3,0)] [] 0) (.exit 0)))) (.trim [0,3] (.block 1 (sq [mo 8 0,bn 9 .rem (.t 8) (ki 10),bn 10 .add (ki 48) (.t 9),oo 11 (.conv (.toInt .u8) (.t 10)),oo 12 (.bslice [(.int .u8 0)] 1 [(0,(.t 11))]),oo 13 (.conv .toStr (.t 12)),mo 14 3,oo 15 (.bin .str .add (.t 13) (.t 14)),mo 3 15] [0,3] (.after (.ops [mo 16 0,bn 17 .quo (.t 16) (ki 10),mo 0 17]) (kp [(0,0),(3,0)] [] 0))))))
def g79l1_c:TC:=.loop [0,3] g79l1_cb
def g79_tf:TFn:=⟨(sq [mk 2 (.c (.str []))] [0] (.seq (sq [mo 4 0,bn 5 .leq (.t 4) (ki 0)] [0,5] (.cond (.t 5) (.seq (.ops [mk 2 (.c (.str [109,48]))]) (.keep (kp [(2,0)] [] 0) .ret)) .skip)) (.trim [0] (sq [mk 3 (.c (.str []))] [0,3] (.seq (.block 0 (.keep (kp [(0,0),(3,0)] [] 0) g79l1_c)) (.trim [3] (.seq (.ops [mo 18 3,oo 19 (.bin .str .add (.c (.str [109])) (.t 18)),mo 2 19]) (.keep (kp [(2,0)] [] 0) .ret)))))))),[.t 2]⟩
abbrev g79_S:=Sys.on [] []
@[reducible,simp] def g79l1_F:Str → Out:=(fun t=>(.ext 0,[(3,(.str t))],[]))
def laws_markText_l1_b (v1:Int) (v2:Str):Option ((Int × Str) ⊕ (Str)):=if v1 > 0 then if ((((lit [(⟨UInt8.ofNat ((IntKind.u8.wrap ((IntKind.i64.wrap (48 + (Int.tmod v1 10)))))).toNat⟩:Bt)]:List Bt)).map Bt.v)).length + v2.length ≤ 9223372036854775807 then some (.inl ((IntKind.i64.wrap (Int.tdiv v1 10)),((((lit [(⟨UInt8.ofNat ((IntKind.u8.wrap ((IntKind.i64.wrap (48 + (Int.tmod v1 10)))))).toNat⟩:Bt)]:List Bt)).map Bt.v) ++ v2))) else none else some (.inr v2)
theorem g79l1_b_eq  (v1:Int) (v2:Str):X g79_S g79l1_cb (keepEnv [0,3] [(0,(.int .i64 v1)),(3,(.str v2))]) [] = (laws_markText_l1_b v1 v2).map (Sum.elim (fun s=>(TX.nrm,[(0,(.int .i64 s.1)),(3,(.str s.2))],[])) g79l1_F):=by
  simp (maxSteps:=2000000) (maxDischargeDepth:=8) -implicitDefEqProofs [g79l1_cb,laws_markText_l1_b,bslV_lit (α:=Bt) (zs:=[(.int .u8 0)])] <;> (try simp only [map_to_bind,some_elim,g79l1_F])
def laws_markText_l1  (s:Int × Str):Option (Str):=loopO (fun s=>laws_markText_l1_b  s.1 s.2) s
@[simp] theorem g79l1_eq (y0 y1):X g79_S g79l1_c [(0,(.int .i64 y0)),(3,(.str y1))] [] = (laws_markText_l1  (y0,y1)).map g79l1_F:=by
  exact loop_X _ _ _ _ (by intro r; first | (simp; done) | (rcases r with r | r <;> simp; done) | (rcases r with r | r | r <;> simp; done) | (rcases r with r | r | r | r <;> simp)) (fun s=>g79l1_b_eq   s.1 s.2) (y0,y1)
def laws_markText (a_k:Int):Option (Str):=if a_k ≤ 0 then some (([109,48]:Str)) else (laws_markText_l1 ((a_k,([]:Str)))).bind fun r3=>if (([109]:Str)).length + r3.length ≤ 9223372036854775807 then some ((([109]:Str) ++ r3)) else none
@[simp] def g79_O:Str → TV × List Blk:=fun r=>((.str r),[])
def g79_E (a:Int):List TV:=[(.int .i64 a)]
theorem g79_run (a_k:Int) :callFn (X g79_S) g79_tf (g79_E a_k) [] = (laws_markText a_k).map g79_O:=by
  rw [callFn_eq]
  simp (maxSteps:=2000000) (maxDischargeDepth:=8) -implicitDefEqProofs [g79_tf,laws_markText,g79_E,bslV_lit (α:=Bt) (zs:=[(.int .u8 0)])] <;> (try simp only [map_to_bind,some_elim,g79_O])
def g79_r:Rule:=RlO g79_E (fun a=>laws_markText a) g79_O
theorem g79_ok:RuleOk Tryz.prog 84 g79_r:=ok_rlo (S:=g79_S) (tf:=g79_tf) (SysOk.on trivial trivial) (trE_ok (ks:=[[0,3]]) Tryz.func84 (by kernel_rfl)) fun a=>g79_run a
@[simp] theorem g79_app (y0):g79_r [(.int .i64 y0)] = (laws_markText y0).map g79_O :=
  RlO_app (enc:=g79_E) (by intro a b h; simp [g79_E,Prod.ext_iff] at h ⊢; simp [h]) y0
/-! laws.markStringS -/
def g25l1_cb:TC:=(.seq (sq [mo 6 5,mo 7 0,le 8 7,bn 9 .lss (.t 6) (.t 8)] [0,1,5,9] (.cond (.t 9) .skip (.keep (kp [(1,0)] [(0,1)] 1) (.exit 0)))) (.trim [0,1,5] (.seq (.block 1 (sq [mo 12 0,mo 13 5,mo 14 1,ca 15 84 [.t 14],ia 16 1 12 13,⟨none,none,(.store 1 (.t 16) (.t 15))⟩] [0,1,5] (.ops [mo 17 1,bn 18 .add (.t 17) (ki 1),mo 1 18]))) (.trim [0,1,5] (.after (.ops [mo 10 5,bn 11 .add (.t 10) (ki 1),mo 5 11]) (kp [(0,0),(1,0),(5,0)] [(0,1)] 1))))))
def g25l1_c:TC:=.loop [0,1,5] g25l1_cb
def g25_tf:TFn:=⟨(sq [mk 4 (ki 0)] [0,1] (.seq (sq [mk 5 (ki 0)] [0,1,5] (.block 0 (.keep (kp [(0,0),(1,0),(5,0)] [(0,1)] 1) g25l1_c))) (.trim [1] (.seq (.ops [mo 19 1,mo 4 19]) (.keep (kp [(4,0)] [(0,1)] 1) .ret))))),[.t 4]⟩
abbrev g25_S:=Sys.on [(84,g79_r)] []
@[reducible,simp] def g25l1_F:(List Str × Int) → Out:=(fun t=>(.ext 0,[(1,(.int .i64 t.2))],[(ob 1 t.1)]))
def laws_markStringS_o35_l1_b (v1:List Str) (v2:Int) (v3:Int):Option ((List Str × Int × Int) ⊕ (List Str × Int)):=if v3 < ((v1.length:Nat):Int) then (laws_markText v2).bind fun r4=>if 0 ≤ v3 ∧ v3 < ((v1.length:Nat):Int) then (v1[(v3).toNat]?).bind fun x5=>some (.inl ((v1.set (v3).toNat r4),(IntKind.i64.wrap (v2 + 1)),(IntKind.i64.wrap (v3 + 1)))) else none else some (.inr (v1,v2))
theorem g25l1_b_eq  (v1:List Str) (v2:Int) (v3:Int):X g25_S g25l1_cb (keepEnv [0,1,5] [(0,(ow 0 v1.length)),(1,(.int .i64 v2)),(5,(.int .i64 v3))]) [(ob 1 v1)] = (laws_markStringS_o35_l1_b v1 v2 v3).map (Sum.elim (fun s=>(TX.nrm,[(0,(ow 0 s.1.length)),(1,(.int .i64 s.2.1)),(5,(.int .i64 s.2.2))],[(ob 1 s.1)])) g25l1_F):=by
  simp (maxSteps:=2000000) (maxDischargeDepth:=8) -implicitDefEqProofs [g25l1_cb,laws_markStringS_o35_l1_b] <;> (try simp only [map_to_bind,some_elim,g25l1_F])
def laws_markStringS_o35_l1  (s:List Str × Int × Int):Option (List Str × Int):=loopO (fun s=>laws_markStringS_o35_l1_b  s.1 s.2.1 s.2.2) s
@[simp] theorem g25l1_eq (y0:List Str)(y1 y2){n1:Nat}(h1:n1 = y0.length):X g25_S g25l1_c [(0,(ow 0 n1)),(1,(.int .i64 y1)),(5,(.int .i64 y2))] [(ob 1 y0)] = (laws_markStringS_o35_l1  (y0,y1,y2)).map g25l1_F:=by
  subst h1
  exact loop_X _ _ _ _ (by intro r; first | (simp; done) | (rcases r with r | r <;> simp; done) | (rcases r with r | r | r <;> simp; done) | (rcases r with r | r | r | r <;> simp)) (fun s=>g25l1_b_eq   s.1 s.2.1 s.2.2) (y0,y1,y2)
def laws_markStringS_o35 (a1:List Str) (a2:Int):Option (List Str × Int):=(laws_markStringS_o35_l1 ((a1,a2,0))).bind fun r6=>some (r6.1,r6.2)
@[simp] def g25_O:(List Str × Int) → TV × List Blk:=fun r=>((.int .i64 r.2),[(ob 1 r.1)])
abbrev g25_T:=List Str × Int
def g25_E (a:g25_T):List TV:=[(ow 0 a.1.length),(.int .i64 a.2)]
def g25_B (a:g25_T):List Blk:=[(ob 1 a.1)]
theorem g25_run (a1:List Str) (a2:Int) :callFn (X g25_S) g25_tf (g25_E (a1,a2)) (g25_B (a1,a2)) = (laws_markStringS_o35 a1 a2).map g25_O:=by
  rw [callFn_eq]
  simp (maxSteps:=2000000) (maxDischargeDepth:=8) -implicitDefEqProofs [g25_tf,laws_markStringS_o35,g25_E,g25_B] <;> (try simp only [map_to_bind,some_elim,g25_O])
def g25_r:MRule:=RmO g25_E g25_B (fun a=>(laws_markStringS_o35 a.1 a.2).bind fun r=>if r.1.length = a.1.length then some ((fixLen a.1 r.1),r.2) else none) g25_O
theorem g25_ok0:MRuleOk Tryz.prog 82 1 (RmO g25_E g25_B (fun a=>laws_markStringS_o35 a.1 a.2) g25_O):=ok_rmo (S:=g25_S) (tf:=g25_tf) (SysOk.on ⟨g79_ok,trivial⟩ trivial) (trE_ok (ks:=[[0,1,5]]) Tryz.func82 (by kernel_rfl)) (by rfl) (fun _=>by simp [g25_B]) (fun _=>by simp) fun a=>g25_run a.1 a.2
theorem g25_ok:MRuleOk Tryz.prog 82 1 g25_r:=g25_ok0.weak fun a r hr=>by
  simp only [Option.bind_eq_some_iff] at hr
  obtain ⟨x,h1,h2⟩:=hr
  split at h2
  · rename_i hc
    simp only [Option.some.injEq] at h2
    rw [h1,← h2]
    simp [fixLen,hc]
  · cases h2
@[simp] theorem g25_app (y0:List Str)(y1){n1:Nat}(h1:n1 = y0.length):g25_r [(ow 0 n1),(.int .i64 y1)] [(ob 1 y0)] = ((laws_markStringS_o35 y0 y1).bind fun r=>if r.1.length = y0.length then some ((fixLen y0 r.1),r.2) else none).map g25_O:=by
  subst h1
  exact RmO_app (enc:=g25_E) (encB:=g25_B) (by intro a b h h2; simp [g25_E,g25_B,Prod.ext_iff] at h h2 ⊢; simp [h,h2]) (y0,y1)
/-! laws.markPutS -/
def g40l1_cb:TC:=(.seq (sq [mo 6 5,mo 7 0,le 8 7,bn 9 .lss (.t 6) (.t 8)] [0,1,5,9] (.cond (.t 9) .skip (.keep (kp [(1,0)] [(0,1)] 1) (.exit 0)))) (.trim [0,1,5] (.seq (.block 1 (sq [mo 12 0,mo 13 5,mo 14 1,ia 15 2 12 13,fa 16 0 15,⟨none,none,(.store 1 (.t 16) (.t 14))⟩] [0,1,5] (sq [mo 17 1,bn 18 .add (.t 17) (ki 1),mo 1 18] [0,1,5] (sq [mo 19 0,mo 20 5,mo 21 1,ca 22 84 [.t 21],ia 23 2 19 20,fa 24 1 23,⟨none,none,(.store 1 (.t 24) (.t 22))⟩] [0,1,5] (.ops [mo 25 1,bn 26 .add (.t 25) (ki 1),mo 1 26]))))) (.trim [0,1,5] (.after (.ops [mo 10 5,bn 11 .add (.t 10) (ki 1),mo 5 11]) (kp [(0,0),(1,0),(5,0)] [(0,1)] 1))))))
def g40l1_c:TC:=.loop [0,1,5] g40l1_cb
def g40_tf:TFn:=⟨(sq [mk 4 (ki 0)] [0,1] (.seq (sq [mk 5 (ki 0)] [0,1,5] (.block 0 (.keep (kp [(0,0),(1,0),(5,0)] [(0,1)] 1) g40l1_c))) (.trim [1] (.seq (.ops [mo 27 1,mo 4 27]) (.keep (kp [(4,0)] [(0,1)] 1) .ret))))),[.t 4]⟩
abbrev g40_S:=Sys.on [(84,g79_r)] []
@[reducible,simp] def g40l1_F:((List (Int × Str)) × Int) → Out:=(fun t=>(.ext 0,[(1,(.int .i64 t.2))],[(ob 2 t.1)]))
def laws_markPutS_o2a_l1_b (v1:List (Int × Str)) (v2:Int) (v3:Int):Option (((List (Int × Str)) × Int × Int) ⊕ ((List (Int × Str)) × Int)):=if v3 < ((v1.length:Nat):Int) then if 0 ≤ v3 ∧ v3 < ((v1.length:Nat):Int) then (v1[(v3).toNat]?).bind fun x4=>(laws_markText ((IntKind.i64.wrap (v2 + 1)))).bind fun r5=>if 0 ≤ v3 ∧ v3 < ((v1.length:Nat):Int) then (((v1.set (v3).toNat (v2,x4.2)))[(v3).toNat]?).bind fun x6=>some (.inl ((((v1.set (v3).toNat (v2,x4.2))).set (v3).toNat (x6.1,r5)),(IntKind.i64.wrap ((IntKind.i64.wrap (v2 + 1)) + 1)),(IntKind.i64.wrap (v3 + 1)))) else none else none else some (.inr (v1,v2))
theorem g40l1_b_eq  (v1:List (Int × Str)) (v2:Int) (v3:Int):X g40_S g40l1_cb (keepEnv [0,1,5] [(0,(ow 0 v1.length)),(1,(.int .i64 v2)),(5,(.int .i64 v3))]) [(ob 2 v1)] = (laws_markPutS_o2a_l1_b v1 v2 v3).map (Sum.elim (fun s=>(TX.nrm,[(0,(ow 0 s.1.length)),(1,(.int .i64 s.2.1)),(5,(.int .i64 s.2.2))],[(ob 2 s.1)])) g40l1_F):=by
  simp (maxSteps:=2000000) (maxDischargeDepth:=8) -implicitDefEqProofs [g40l1_cb,laws_markPutS_o2a_l1_b] <;> (try simp only [map_to_bind,some_elim,g40l1_F])
def laws_markPutS_o2a_l1  (s:(List (Int × Str)) × Int × Int):Option ((List (Int × Str)) × Int):=loopO (fun s=>laws_markPutS_o2a_l1_b  s.1 s.2.1 s.2.2) s
@[simp] theorem g40l1_eq (y0:List (Int × Str))(y1 y2){n1:Nat}(h1:n1 = y0.length):X g40_S g40l1_c [(0,(ow 0 n1)),(1,(.int .i64 y1)),(5,(.int .i64 y2))] [(ob 2 y0)] = (laws_markPutS_o2a_l1  (y0,y1,y2)).map g40l1_F:=by
  subst h1
  exact loop_X _ _ _ _ (by intro r; first | (simp; done) | (rcases r with r | r <;> simp; done) | (rcases r with r | r | r <;> simp; done) | (rcases r with r | r | r | r <;> simp)) (fun s=>g40l1_b_eq   s.1 s.2.1 s.2.2) (y0,y1,y2)
def laws_markPutS_o2a (a1:List (Int × Str)) (a2:Int):Option ((List (Int × Str)) × Int):=(laws_markPutS_o2a_l1 ((a1,a2,0))).bind fun r7=>some (r7.1,r7.2)
@[simp] def g40_O:((List (Int × Str)) × Int) → TV × List Blk:=fun r=>((.int .i64 r.2),[(ob 2 r.1)])
abbrev g40_T:=(List (Int × Str)) × Int
def g40_E (a:g40_T):List TV:=[(ow 0 a.1.length),(.int .i64 a.2)]
def g40_B (a:g40_T):List Blk:=[(ob 2 a.1)]
theorem g40_run (a1:List (Int × Str)) (a2:Int) :callFn (X g40_S) g40_tf (g40_E (a1,a2)) (g40_B (a1,a2)) = (laws_markPutS_o2a a1 a2).map g40_O:=by
  rw [callFn_eq]
  simp (maxSteps:=2000000) (maxDischargeDepth:=8) -implicitDefEqProofs [g40_tf,laws_markPutS_o2a,g40_E,g40_B] <;> (try simp only [map_to_bind,some_elim,g40_O])
def g40_r:MRule:=RmO g40_E g40_B (fun a=>(laws_markPutS_o2a a.1 a.2).bind fun r=>if r.1.length = a.1.length then some ((fixLen a.1 r.1),r.2) else none) g40_O
theorem g40_ok0:MRuleOk Tryz.prog 83 1 (RmO g40_E g40_B (fun a=>laws_markPutS_o2a a.1 a.2) g40_O):=ok_rmo (S:=g40_S) (tf:=g40_tf) (SysOk.on ⟨g79_ok,trivial⟩ trivial) (trE_ok (ks:=[[0,1,5]]) Tryz.func83 (by kernel_rfl)) (by rfl) (fun _=>by simp [g40_B]) (fun _=>by simp) fun a=>g40_run a.1 a.2
theorem g40_ok:MRuleOk Tryz.prog 83 1 g40_r:=g40_ok0.weak fun a r hr=>by
  simp only [Option.bind_eq_some_iff] at hr
  obtain ⟨x,h1,h2⟩:=hr
  split at h2
  · rename_i hc
    simp only [Option.some.injEq] at h2
    rw [h1,← h2]
    simp [fixLen,hc]
  · cases h2
@[simp] theorem g40_app (y0:List (Int × Str))(y1){n1:Nat}(h1:n1 = y0.length):g40_r [(ow 0 n1),(.int .i64 y1)] [(ob 2 y0)] = ((laws_markPutS_o2a y0 y1).bind fun r=>if r.1.length = y0.length then some ((fixLen y0 r.1),r.2) else none).map g40_O:=by
  subst h1
  exact RmO_app (enc:=g40_E) (encB:=g40_B) (by intro a b h h2; simp [g40_E,g40_B,Prod.ext_iff] at h h2 ⊢; simp [h,h2]) (y0,y1)
/-! laws.markDisk -/
def g41_tf:TFn:=⟨(sq [bx 2 0,mk 4 (ki 0)] [1,2] (sq [fa 5 0 2,ld 6 5,mo 7 1,oo 8 (.callM 82 0 [0] [.t 6,.t 7]),mo 1 8] [1,2] (sq [fa 9 1 2,ld 10 9,mo 11 1,oo 12 (.callM 83 0 [1] [.t 10,.t 11]),mo 1 12] [1] (.seq (.ops [mo 13 1,mo 4 13]) (.keep (kp [(4,0)] [(0,1),(1,1)] 2) .ret))))),[.t 4]⟩
abbrev g41_S:=Sys.on [] [((82,0),(1,g25_r)),((83,0),(1,g40_r))]
def laws_markDisk_o3e (a1:List Str) (a2:List (Int × Str)) (a3:Int) (a4:Bool) (a5:Int):Option (List Str × (List (Int × Str)) × Int):=(laws_markStringS_o35 a1 a5).bind fun r1=>if r1.1.length = a1.length then (laws_markPutS_o2a a2 r1.2).bind fun r2=>if r2.1.length = a2.length then some ((fixLen a1 r1.1),(fixLen a2 r2.1),r2.2) else none else none
@[simp] def g41_O:(List Str × (List (Int × Str)) × Int) → TV × List Blk:=fun r=>((.int .i64 r.2.2),[(ob 1 r.1),(ob 2 r.2.1)])
abbrev g41_T:=List Str × (List (Int × Str)) × Int × Bool × Int
def g41_E (a:g41_T):List TV:=[(.agg [(ow 0 a.1.length),(ow 1 a.2.1.length),(.int .i64 a.2.2.1),(.bool a.2.2.2.1)]),(.int .i64 a.2.2.2.2)]
def g41_B (a:g41_T):List Blk:=[(ob 1 a.1),(ob 2 a.2.1)]
theorem g41_run (a1:List Str) (a2:List (Int × Str)) (a3:Int) (a4:Bool) (a5:Int) :callFn (X g41_S) g41_tf (g41_E (a1,a2,a3,a4,a5)) (g41_B (a1,a2,a3,a4,a5)) = (laws_markDisk_o3e a1 a2 a3 a4 a5).map g41_O:=by
  rw [callFn_eq]
  simp (maxSteps:=2000000) (maxDischargeDepth:=8) -implicitDefEqProofs [g41_tf,laws_markDisk_o3e,g41_E,g41_B] <;> (try simp only [map_to_bind,some_elim,g41_O])
def g41_r:MRule:=RmO g41_E g41_B (fun a=>(laws_markDisk_o3e a.1 a.2.1 a.2.2.1 a.2.2.2.1 a.2.2.2.2).bind fun r=>if r.1.length = a.1.length ∧ r.2.1.length = a.2.1.length then some ((fixLen a.1 r.1),(fixLen a.2.1 r.2.1),r.2.2) else none) g41_O
theorem g41_ok0:MRuleOk Tryz.prog 35 2 (RmO g41_E g41_B (fun a=>laws_markDisk_o3e a.1 a.2.1 a.2.2.1 a.2.2.2.1 a.2.2.2.2) g41_O):=ok_rmo (S:=g41_S) (tf:=g41_tf) (SysOk.on trivial ⟨g25_ok,g40_ok,trivial⟩) (trE_ok (ks:=[]) Tryz.func35 (by kernel_rfl)) (by rfl) (fun _=>by simp [g41_B]) (fun _=>by simp) fun a=>g41_run a.1 a.2.1 a.2.2.1 a.2.2.2.1 a.2.2.2.2
theorem g41_ok:MRuleOk Tryz.prog 35 2 g41_r:=g41_ok0.weak fun a r hr=>by
  simp only [Option.bind_eq_some_iff] at hr
  obtain ⟨x,h1,h2⟩:=hr
  split at h2
  · rename_i hc
    simp only [Option.some.injEq] at h2
    rw [h1,← h2]
    simp [fixLen,hc]
  · cases h2
@[simp] theorem g41_app (y0:List Str)(y1:List (Int × Str))(y2 y3 y4){n1:Nat}(h1:n1 = y0.length){n2:Nat}(h2:n2 = y1.length):g41_r [(.agg [(ow 0 n1),(ow 1 n2),(.int .i64 y2),(.bool y3)]),(.int .i64 y4)] [(ob 1 y0),(ob 2 y1)] = ((laws_markDisk_o3e y0 y1 y2 y3 y4).bind fun r=>if r.1.length = y0.length ∧ r.2.1.length = y1.length then some ((fixLen y0 r.1),(fixLen y1 r.2.1),r.2.2) else none).map g41_O:=by
  subst h1 h2
  exact RmO_app (enc:=g41_E) (encB:=g41_B) (by intro a b h h2; simp [g41_E,g41_B,Prod.ext_iff] at h h2 ⊢; simp [h,h2]) (y0,y1,y2,y3,y4)
/-! laws.markPageS -/
def g28l1_cb:TC:=(.seq (sq [mo 6 5,mo 7 0,le 8 7,bn 9 .lss (.t 6) (.t 8)] [0,1,5,9] (.cond (.t 9) .skip (.keep (kp [(1,0)] [(0,1)] 1) (.exit 0)))) (.trim [0,1,5] (.seq (.block 1 (sq [mo 12 0,mo 13 5,mo 14 1,ia 15 2 12 13,fa 16 0 15,⟨none,none,(.store 1 (.t 16) (.t 14))⟩] [0,1,5] (sq [mo 17 1,bn 18 .add (.t 17) (ki 1),mo 1 18] [0,1,5] (sq [mo 19 0,mo 20 5,mo 21 1,ca 22 84 [.t 21],ia 23 2 19 20,fa 24 1 23,⟨none,none,(.store 1 (.t 24) (.t 22))⟩] [0,1,5] (.ops [mo 25 1,bn 26 .add (.t 25) (ki 1),mo 1 26]))))) (.trim [0,1,5] (.after (.ops [mo 10 5,bn 11 .add (.t 10) (ki 1),mo 5 11]) (kp [(0,0),(1,0),(5,0)] [(0,1)] 1))))))
def g28l1_c:TC:=.loop [0,1,5] g28l1_cb
def g28_tf:TFn:=⟨(sq [mk 4 (ki 0)] [0,1] (.seq (sq [mk 5 (ki 0)] [0,1,5] (.block 0 (.keep (kp [(0,0),(1,0),(5,0)] [(0,1)] 1) g28l1_c))) (.trim [1] (.seq (.ops [mo 27 1,mo 4 27]) (.keep (kp [(4,0)] [(0,1)] 1) .ret))))),[.t 4]⟩
abbrev g28_S:=Sys.on [(84,g79_r)] []
@[reducible,simp] def g28l1_F:((List (Int × Str)) × Int) → Out:=(fun t=>(.ext 0,[(1,(.int .i64 t.2))],[(ob 2 t.1)]))
def laws_markPageS_o2a_l1_b (v1:List (Int × Str)) (v2:Int) (v3:Int):Option (((List (Int × Str)) × Int × Int) ⊕ ((List (Int × Str)) × Int)):=if v3 < ((v1.length:Nat):Int) then if 0 ≤ v3 ∧ v3 < ((v1.length:Nat):Int) then (v1[(v3).toNat]?).bind fun x4=>(laws_markText ((IntKind.i64.wrap (v2 + 1)))).bind fun r5=>if 0 ≤ v3 ∧ v3 < ((v1.length:Nat):Int) then (((v1.set (v3).toNat (v2,x4.2)))[(v3).toNat]?).bind fun x6=>some (.inl ((((v1.set (v3).toNat (v2,x4.2))).set (v3).toNat (x6.1,r5)),(IntKind.i64.wrap ((IntKind.i64.wrap (v2 + 1)) + 1)),(IntKind.i64.wrap (v3 + 1)))) else none else none else some (.inr (v1,v2))
theorem g28l1_b_eq  (v1:List (Int × Str)) (v2:Int) (v3:Int):X g28_S g28l1_cb (keepEnv [0,1,5] [(0,(ow 0 v1.length)),(1,(.int .i64 v2)),(5,(.int .i64 v3))]) [(ob 2 v1)] = (laws_markPageS_o2a_l1_b v1 v2 v3).map (Sum.elim (fun s=>(TX.nrm,[(0,(ow 0 s.1.length)),(1,(.int .i64 s.2.1)),(5,(.int .i64 s.2.2))],[(ob 2 s.1)])) g28l1_F):=by
  simp (maxSteps:=2000000) (maxDischargeDepth:=8) -implicitDefEqProofs [g28l1_cb,laws_markPageS_o2a_l1_b] <;> (try simp only [map_to_bind,some_elim,g28l1_F])
def laws_markPageS_o2a_l1  (s:(List (Int × Str)) × Int × Int):Option ((List (Int × Str)) × Int):=loopO (fun s=>laws_markPageS_o2a_l1_b  s.1 s.2.1 s.2.2) s
@[simp] theorem g28l1_eq (y0:List (Int × Str))(y1 y2){n1:Nat}(h1:n1 = y0.length):X g28_S g28l1_c [(0,(ow 0 n1)),(1,(.int .i64 y1)),(5,(.int .i64 y2))] [(ob 2 y0)] = (laws_markPageS_o2a_l1  (y0,y1,y2)).map g28l1_F:=by
  subst h1
  exact loop_X _ _ _ _ (by intro r; first | (simp; done) | (rcases r with r | r <;> simp; done) | (rcases r with r | r | r <;> simp; done) | (rcases r with r | r | r | r <;> simp)) (fun s=>g28l1_b_eq   s.1 s.2.1 s.2.2) (y0,y1,y2)
def laws_markPageS_o2a (a1:List (Int × Str)) (a2:Int):Option ((List (Int × Str)) × Int):=(laws_markPageS_o2a_l1 ((a1,a2,0))).bind fun r7=>some (r7.1,r7.2)
@[simp] def g28_O:((List (Int × Str)) × Int) → TV × List Blk:=fun r=>((.int .i64 r.2),[(ob 2 r.1)])
abbrev g28_T:=(List (Int × Str)) × Int
def g28_E (a:g28_T):List TV:=[(ow 0 a.1.length),(.int .i64 a.2)]
def g28_B (a:g28_T):List Blk:=[(ob 2 a.1)]
theorem g28_run (a1:List (Int × Str)) (a2:Int) :callFn (X g28_S) g28_tf (g28_E (a1,a2)) (g28_B (a1,a2)) = (laws_markPageS_o2a a1 a2).map g28_O:=by
  rw [callFn_eq]
  simp (maxSteps:=2000000) (maxDischargeDepth:=8) -implicitDefEqProofs [g28_tf,laws_markPageS_o2a,g28_E,g28_B] <;> (try simp only [map_to_bind,some_elim,g28_O])
def g28_r:MRule:=RmO g28_E g28_B (fun a=>(laws_markPageS_o2a a.1 a.2).bind fun r=>if r.1.length = a.1.length then some ((fixLen a.1 r.1),r.2) else none) g28_O
theorem g28_ok0:MRuleOk Tryz.prog 36 1 (RmO g28_E g28_B (fun a=>laws_markPageS_o2a a.1 a.2) g28_O):=ok_rmo (S:=g28_S) (tf:=g28_tf) (SysOk.on ⟨g79_ok,trivial⟩ trivial) (trE_ok (ks:=[[0,1,5]]) Tryz.func36 (by kernel_rfl)) (by rfl) (fun _=>by simp [g28_B]) (fun _=>by simp) fun a=>g28_run a.1 a.2
theorem g28_ok:MRuleOk Tryz.prog 36 1 g28_r:=g28_ok0.weak fun a r hr=>by
  simp only [Option.bind_eq_some_iff] at hr
  obtain ⟨x,h1,h2⟩:=hr
  split at h2
  · rename_i hc
    simp only [Option.some.injEq] at h2
    rw [h1,← h2]
    simp [fixLen,hc]
  · cases h2
@[simp] theorem g28_app (y0:List (Int × Str))(y1){n1:Nat}(h1:n1 = y0.length):g28_r [(ow 0 n1),(.int .i64 y1)] [(ob 2 y0)] = ((laws_markPageS_o2a y0 y1).bind fun r=>if r.1.length = y0.length then some ((fixLen y0 r.1),r.2) else none).map g28_O:=by
  subst h1
  exact RmO_app (enc:=g28_E) (encB:=g28_B) (by intro a b h h2; simp [g28_E,g28_B,Prod.ext_iff] at h h2 ⊢; simp [h,h2]) (y0,y1)
/-! laws.markPager -/
def g29_tf:TFn:=⟨(sq [bx 2 0,mk 4 (ki 0)] [1,2] (sq [fa 5 0 2,ln 6 4 5,mo 7 1,oo 8 (.callM 35 0 [0,1] [.t 6,.t 7]),mo 1 8] [1,2] (sq [fa 9 10 2,ld 10 9,mo 11 1,oo 12 (.callM 36 0 [2] [.t 10,.t 11]),mo 1 12] [1,2] (sq [fa 13 11 2,ld 14 13,mo 15 1,oo 16 (.callM 36 0 [3] [.t 14,.t 15]),mo 1 16] [1] (.seq (.ops [mo 17 1,mo 4 17]) (.keep (kp [(4,0)] [(0,1),(1,1),(2,1),(3,1)] 4) .ret)))))),[.t 4]⟩
abbrev g29_S:=Sys.on [] [((35,0),(2,g41_r)),((36,0),(1,g28_r))]
def laws_markPager_o71 (a1:List Str) (a2:List (Int × Str)) (a3:Int) (a4:Bool) (a5:Int) (a6:Int) (a7:Int) (a8:Int) (a9:Int) (a10:Int) (a11:List (Int × Str)) (a12:List (Int × Str)) (a13:Int):Option (List Str × (List (Int × Str)) × (List (Int × Str)) × (List (Int × Str)) × Int):=(laws_markDisk_o3e a1 a2 a3 a4 a13).bind fun r1=>if r1.1.length = a1.length ∧ r1.2.1.length = a2.length then (laws_markPageS_o2a a11 r1.2.2).bind fun r2=>if r2.1.length = a11.length then (laws_markPageS_o2a a12 r2.2).bind fun r3=>if r3.1.length = a12.length then some ((fixLen a1 r1.1),(fixLen a2 r1.2.1),(fixLen a11 r2.1),(fixLen a12 r3.1),r3.2) else none else none else none
@[simp] def g29_O:(List Str × (List (Int × Str)) × (List (Int × Str)) × (List (Int × Str)) × Int) → TV × List Blk:=fun r=>((.int .i64 r.2.2.2.2),[(ob 1 r.1),(ob 2 r.2.1),(ob 2 r.2.2.1),(ob 2 r.2.2.2.1)])
abbrev g29_T:=List Str × (List (Int × Str)) × Int × Bool × Int × Int × Int × Int × Int × Int × (List (Int × Str)) × (List (Int × Str)) × Int
def g29_E (a:g29_T):List TV:=[(.agg [(ow 0 a.1.length),(ow 1 a.2.1.length),(.int .i64 a.2.2.1),(.bool a.2.2.2.1),(.int .i64 a.2.2.2.2.1),(.int .i64 a.2.2.2.2.2.1),(.int .i64 a.2.2.2.2.2.2.1),(.int .i64 a.2.2.2.2.2.2.2.1),(.int .i64 a.2.2.2.2.2.2.2.2.1),(.int .i64 a.2.2.2.2.2.2.2.2.2.1),(ow 2 a.2.2.2.2.2.2.2.2.2.2.1.length),(ow 3 a.2.2.2.2.2.2.2.2.2.2.2.1.length)]),(.int .i64 a.2.2.2.2.2.2.2.2.2.2.2.2)]
def g29_B (a:g29_T):List Blk:=[(ob 1 a.1),(ob 2 a.2.1),(ob 2 a.2.2.2.2.2.2.2.2.2.2.1),(ob 2 a.2.2.2.2.2.2.2.2.2.2.2.1)]
theorem g29_run (a1:List Str) (a2:List (Int × Str)) (a3:Int) (a4:Bool) (a5:Int) (a6:Int) (a7:Int) (a8:Int) (a9:Int) (a10:Int) (a11:List (Int × Str)) (a12:List (Int × Str)) (a13:Int) :callFn (X g29_S) g29_tf (g29_E (a1,a2,a3,a4,a5,a6,a7,a8,a9,a10,a11,a12,a13)) (g29_B (a1,a2,a3,a4,a5,a6,a7,a8,a9,a10,a11,a12,a13)) = (laws_markPager_o71 a1 a2 a3 a4 a5 a6 a7 a8 a9 a10 a11 a12 a13).map g29_O:=by
  rw [callFn_eq]
  simp (maxSteps:=2000000) (maxDischargeDepth:=8) -implicitDefEqProofs [g29_tf,laws_markPager_o71,g29_E,g29_B] <;> (try simp only [map_to_bind,some_elim,g29_O])
def g29_r:MRule:=RmO g29_E g29_B (fun a=>(laws_markPager_o71 a.1 a.2.1 a.2.2.1 a.2.2.2.1 a.2.2.2.2.1 a.2.2.2.2.2.1 a.2.2.2.2.2.2.1 a.2.2.2.2.2.2.2.1 a.2.2.2.2.2.2.2.2.1 a.2.2.2.2.2.2.2.2.2.1 a.2.2.2.2.2.2.2.2.2.2.1 a.2.2.2.2.2.2.2.2.2.2.2.1 a.2.2.2.2.2.2.2.2.2.2.2.2).bind fun r=>if r.1.length = a.1.length ∧ r.2.1.length = a.2.1.length ∧ r.2.2.1.length = a.2.2.2.2.2.2.2.2.2.2.1.length ∧ r.2.2.2.1.length = a.2.2.2.2.2.2.2.2.2.2.2.1.length then some ((fixLen a.1 r.1),(fixLen a.2.1 r.2.1),(fixLen a.2.2.2.2.2.2.2.2.2.2.1 r.2.2.1),(fixLen a.2.2.2.2.2.2.2.2.2.2.2.1 r.2.2.2.1),r.2.2.2.2) else none) g29_O
theorem g29_ok0:MRuleOk Tryz.prog 12 4 (RmO g29_E g29_B (fun a=>laws_markPager_o71 a.1 a.2.1 a.2.2.1 a.2.2.2.1 a.2.2.2.2.1 a.2.2.2.2.2.1 a.2.2.2.2.2.2.1 a.2.2.2.2.2.2.2.1 a.2.2.2.2.2.2.2.2.1 a.2.2.2.2.2.2.2.2.2.1 a.2.2.2.2.2.2.2.2.2.2.1 a.2.2.2.2.2.2.2.2.2.2.2.1 a.2.2.2.2.2.2.2.2.2.2.2.2) g29_O):=ok_rmo (S:=g29_S) (tf:=g29_tf) (SysOk.on trivial ⟨g41_ok,g28_ok,trivial⟩) (trE_ok (ks:=[]) Tryz.func12 (by kernel_rfl)) (by rfl) (fun _=>by simp [g29_B]) (fun _=>by simp) fun a=>g29_run a.1 a.2.1 a.2.2.1 a.2.2.2.1 a.2.2.2.2.1 a.2.2.2.2.2.1 a.2.2.2.2.2.2.1 a.2.2.2.2.2.2.2.1 a.2.2.2.2.2.2.2.2.1 a.2.2.2.2.2.2.2.2.2.1 a.2.2.2.2.2.2.2.2.2.2.1 a.2.2.2.2.2.2.2.2.2.2.2.1 a.2.2.2.2.2.2.2.2.2.2.2.2
theorem g29_ok:MRuleOk Tryz.prog 12 4 g29_r:=g29_ok0.weak fun a r hr=>by
  simp only [Option.bind_eq_some_iff] at hr
  obtain ⟨x,h1,h2⟩:=hr
  split at h2
  · rename_i hc
    simp only [Option.some.injEq] at h2
    rw [h1,← h2]
    simp [fixLen,hc]
  · cases h2
@[simp] theorem g29_app (y0:List Str)(y1:List (Int × Str))(y2 y3 y4 y5 y6 y7 y8 y9)(y10:List (Int × Str))(y11:List (Int × Str))(y12){n1:Nat}(h1:n1 = y0.length){n2:Nat}(h2:n2 = y1.length){n3:Nat}(h3:n3 = y10.length){n4:Nat}(h4:n4 = y11.length):g29_r [(.agg [(ow 0 n1),(ow 1 n2),(.int .i64 y2),(.bool y3),(.int .i64 y4),(.int .i64 y5),(.int .i64 y6),(.int .i64 y7),(.int .i64 y8),(.int .i64 y9),(ow 2 n3),(ow 3 n4)]),(.int .i64 y12)] [(ob 1 y0),(ob 2 y1),(ob 2 y10),(ob 2 y11)] = ((laws_markPager_o71 y0 y1 y2 y3 y4 y5 y6 y7 y8 y9 y10 y11 y12).bind fun r=>if r.1.length = y0.length ∧ r.2.1.length = y1.length ∧ r.2.2.1.length = y10.length ∧ r.2.2.2.1.length = y11.length then some ((fixLen y0 r.1),(fixLen y1 r.2.1),(fixLen y10 r.2.2.1),(fixLen y11 r.2.2.2.1),r.2.2.2.2) else none).map g29_O:=by
  subst h1 h2 h3 h4
  exact RmO_app (enc:=g29_E) (encB:=g29_B) (by intro a b h h2; simp [g29_E,g29_B,Prod.ext_iff] at h h2 ⊢; simp [h,h2]) (y0,y1,y2,y3,y4,y5,y6,y7,y8,y9,y10,y11,y12)
/-! laws.markMessageS -/
def g21l1_cb:TC:=(.seq (sq [mo 6 5,mo 7 0,le 8 7,bn 9 .lss (.t 6) (.t 8)] [0,1,5,9] (.cond (.t 9) .skip (.keep (kp [(1,0)] [(0,1)] 1) (.exit 0)))) (.trim [0,1,5] (.seq (.block 1 (sq [mo 12 0,mo 13 5,mo 14 1,ia 15 3 12 13,fa 16 0 15,⟨none,none,(.store 1 (.t 16) (.t 14))⟩] [0,1,5] (sq [mo 17 1,bn 18 .add (.t 17) (ki 1),mo 1 18] [0,1,5] (sq [mo 19 0,mo 20 5,mo 21 1,ia 22 3 19 20,fa 23 1 22,⟨none,none,(.store 1 (.t 23) (.t 21))⟩] [0,1,5] (sq [mo 24 1,bn 25 .add (.t 24) (ki 1),mo 1 25] [0,1,5] (sq [mo 26 0,mo 27 5,mo 28 1,ca 29 84 [.t 28],ia 30 3 26 27,fa 31 2 30,⟨none,none,(.store 1 (.t 31) (.t 29))⟩] [0,1,5] (.ops [mo 32 1,bn 33 .add (.t 32) (ki 1),mo 1 33]))))))) (.trim [0,1,5] (.after (.ops [mo 10 5,bn 11 .add (.t 10) (ki 1),mo 5 11]) (kp [(0,0),(1,0),(5,0)] [(0,1)] 1))))))
def g21l1_c:TC:=.loop [0,1,5] g21l1_cb
def g21_tf:TFn:=⟨(sq [mk 4 (ki 0)] [0,1] (.seq (sq [mk 5 (ki 0)] [0,1,5] (.block 0 (.keep (kp [(0,0),(1,0),(5,0)] [(0,1)] 1) g21l1_c))) (.trim [1] (.seq (.ops [mo 34 1,mo 4 34]) (.keep (kp [(4,0)] [(0,1)] 1) .ret))))),[.t 4]⟩
abbrev g21_S:=Sys.on [(84,g79_r)] []
@[reducible,simp] def g21l1_F:((List (Int × Int × Str)) × Int) → Out:=(fun t=>(.ext 0,[(1,(.int .i64 t.2))],[(ob 3 t.1)]))
def laws_markMessageS_o71_l1_b (v1:List (Int × Int × Str)) (v2:Int) (v3:Int):Option (((List (Int × Int × Str)) × Int × Int) ⊕ ((List (Int × Int × Str)) × Int)):=if v3 < ((v1.length:Nat):Int) then if 0 ≤ v3 ∧ v3 < ((v1.length:Nat):Int) then (v1[(v3).toNat]?).bind fun x4=>if 0 ≤ v3 ∧ v3 < ((v1.length:Nat):Int) then (((v1.set (v3).toNat (v2,x4.2.1,x4.2.2)))[(v3).toNat]?).bind fun x5=>(laws_markText ((IntKind.i64.wrap ((IntKind.i64.wrap (v2 + 1)) + 1)))).bind fun r6=>if 0 ≤ v3 ∧ v3 < ((v1.length:Nat):Int) then (((((v1.set (v3).toNat (v2,x4.2.1,x4.2.2))).set (v3).toNat (x5.1,(IntKind.i64.wrap (v2 + 1)),x5.2.2)))[(v3).toNat]?).bind fun x7=>some (.inl ((((((v1.set (v3).toNat (v2,x4.2.1,x4.2.2))).set (v3).toNat (x5.1,(IntKind.i64.wrap (v2 + 1)),x5.2.2))).set (v3).toNat (x7.1,x7.2.1,r6)),(IntKind.i64.wrap ((IntKind.i64.wrap ((IntKind.i64.wrap (v2 + 1)) + 1)) + 1)),(IntKind.i64.wrap (v3 + 1)))) else none else none else none else some (.inr (v1,v2))
theorem g21l1_b_eq  (v1:List (Int × Int × Str)) (v2:Int) (v3:Int):X g21_S g21l1_cb (keepEnv [0,1,5] [(0,(ow 0 v1.length)),(1,(.int .i64 v2)),(5,(.int .i64 v3))]) [(ob 3 v1)] = (laws_markMessageS_o71_l1_b v1 v2 v3).map (Sum.elim (fun s=>(TX.nrm,[(0,(ow 0 s.1.length)),(1,(.int .i64 s.2.1)),(5,(.int .i64 s.2.2))],[(ob 3 s.1)])) g21l1_F):=by
  simp (maxSteps:=2000000) (maxDischargeDepth:=8) -implicitDefEqProofs [g21l1_cb,laws_markMessageS_o71_l1_b] <;> (try simp only [map_to_bind,some_elim,g21l1_F])
def laws_markMessageS_o71_l1  (s:(List (Int × Int × Str)) × Int × Int):Option ((List (Int × Int × Str)) × Int):=loopO (fun s=>laws_markMessageS_o71_l1_b  s.1 s.2.1 s.2.2) s
@[simp] theorem g21l1_eq (y0:List (Int × Int × Str))(y1 y2){n1:Nat}(h1:n1 = y0.length):X g21_S g21l1_c [(0,(ow 0 n1)),(1,(.int .i64 y1)),(5,(.int .i64 y2))] [(ob 3 y0)] = (laws_markMessageS_o71_l1  (y0,y1,y2)).map g21l1_F:=by
  subst h1
  exact loop_X _ _ _ _ (by intro r; first | (simp; done) | (rcases r with r | r <;> simp; done) | (rcases r with r | r | r <;> simp; done) | (rcases r with r | r | r | r <;> simp)) (fun s=>g21l1_b_eq   s.1 s.2.1 s.2.2) (y0,y1,y2)
def laws_markMessageS_o71 (a1:List (Int × Int × Str)) (a2:Int):Option ((List (Int × Int × Str)) × Int):=(laws_markMessageS_o71_l1 ((a1,a2,0))).bind fun r8=>some (r8.1,r8.2)
@[simp] def g21_O:((List (Int × Int × Str)) × Int) → TV × List Blk:=fun r=>((.int .i64 r.2),[(ob 3 r.1)])
abbrev g21_T:=(List (Int × Int × Str)) × Int
def g21_E (a:g21_T):List TV:=[(ow 0 a.1.length),(.int .i64 a.2)]
def g21_B (a:g21_T):List Blk:=[(ob 3 a.1)]
theorem g21_run (a1:List (Int × Int × Str)) (a2:Int) :callFn (X g21_S) g21_tf (g21_E (a1,a2)) (g21_B (a1,a2)) = (laws_markMessageS_o71 a1 a2).map g21_O:=by
  rw [callFn_eq]
  simp (maxSteps:=2000000) (maxDischargeDepth:=8) -implicitDefEqProofs [g21_tf,laws_markMessageS_o71,g21_E,g21_B] <;> (try simp only [map_to_bind,some_elim,g21_O])
def g21_r:MRule:=RmO g21_E g21_B (fun a=>(laws_markMessageS_o71 a.1 a.2).bind fun r=>if r.1.length = a.1.length then some ((fixLen a.1 r.1),r.2) else none) g21_O
theorem g21_ok0:MRuleOk Tryz.prog 40 1 (RmO g21_E g21_B (fun a=>laws_markMessageS_o71 a.1 a.2) g21_O):=ok_rmo (S:=g21_S) (tf:=g21_tf) (SysOk.on ⟨g79_ok,trivial⟩ trivial) (trE_ok (ks:=[[0,1,5]]) Tryz.func40 (by kernel_rfl)) (by rfl) (fun _=>by simp [g21_B]) (fun _=>by simp) fun a=>g21_run a.1 a.2
theorem g21_ok:MRuleOk Tryz.prog 40 1 g21_r:=g21_ok0.weak fun a r hr=>by
  simp only [Option.bind_eq_some_iff] at hr
  obtain ⟨x,h1,h2⟩:=hr
  split at h2
  · rename_i hc
    simp only [Option.some.injEq] at h2
    rw [h1,← h2]
    simp [fixLen,hc]
  · cases h2
@[simp] theorem g21_app (y0:List (Int × Int × Str))(y1){n1:Nat}(h1:n1 = y0.length):g21_r [(ow 0 n1),(.int .i64 y1)] [(ob 3 y0)] = ((laws_markMessageS_o71 y0 y1).bind fun r=>if r.1.length = y0.length then some ((fixLen y0 r.1),r.2) else none).map g21_O:=by
  subst h1
  exact RmO_app (enc:=g21_E) (encB:=g21_B) (by intro a b h h2; simp [g21_E,g21_B,Prod.ext_iff] at h h2 ⊢; simp [h,h2]) (y0,y1)
/-! laws.markHeader -/
def g27_tf:TFn:=⟨(sq [bx 2 0,mk 4 (ki 0)] [1,2] (sq [fa 5 2 2,ld 6 5,mo 7 1,oo 8 (.callM 40 0 [0] [.t 6,.t 7]),mo 1 8] [1] (.seq (.ops [mo 9 1,mo 4 9]) (.keep (kp [(4,0)] [(0,1)] 1) .ret)))),[.t 4]⟩
abbrev g27_S:=Sys.on [] [((40,0),(1,g21_r))]
def laws_markHeader_o63 (a1:Int) (a2:Int) (a3:List (Int × Int × Str)) (a4:Int):Option ((List (Int × Int × Str)) × Int):=(laws_markMessageS_o71 a3 a4).bind fun r1=>if r1.1.length = a3.length then some ((fixLen a3 r1.1),r1.2) else none
@[simp] def g27_O:((List (Int × Int × Str)) × Int) → TV × List Blk:=fun r=>((.int .i64 r.2),[(ob 3 r.1)])
abbrev g27_T:=Int × Int × (List (Int × Int × Str)) × Int
def g27_E (a:g27_T):List TV:=[(.agg [(.int .i64 a.1),(.int .i64 a.2.1),(ow 0 a.2.2.1.length)]),(.int .i64 a.2.2.2)]
def g27_B (a:g27_T):List Blk:=[(ob 3 a.2.2.1)]
theorem g27_run (a1:Int) (a2:Int) (a3:List (Int × Int × Str)) (a4:Int) :callFn (X g27_S) g27_tf (g27_E (a1,a2,a3,a4)) (g27_B (a1,a2,a3,a4)) = (laws_markHeader_o63 a1 a2 a3 a4).map g27_O:=by
  rw [callFn_eq]
  simp (maxSteps:=2000000) (maxDischargeDepth:=8) -implicitDefEqProofs [g27_tf,laws_markHeader_o63,g27_E,g27_B] <;> (try simp only [map_to_bind,some_elim,g27_O])
def g27_r:MRule:=RmO g27_E g27_B (fun a=>(laws_markHeader_o63 a.1 a.2.1 a.2.2.1 a.2.2.2).bind fun r=>if r.1.length = a.2.2.1.length then some ((fixLen a.2.2.1 r.1),r.2) else none) g27_O
theorem g27_ok0:MRuleOk Tryz.prog 18 1 (RmO g27_E g27_B (fun a=>laws_markHeader_o63 a.1 a.2.1 a.2.2.1 a.2.2.2) g27_O):=ok_rmo (S:=g27_S) (tf:=g27_tf) (SysOk.on trivial ⟨g21_ok,trivial⟩) (trE_ok (ks:=[]) Tryz.func18 (by kernel_rfl)) (by rfl) (fun _=>by simp [g27_B]) (fun _=>by simp) fun a=>g27_run a.1 a.2.1 a.2.2.1 a.2.2.2
theorem g27_ok:MRuleOk Tryz.prog 18 1 g27_r:=g27_ok0.weak fun a r hr=>by
  simp only [Option.bind_eq_some_iff] at hr
  obtain ⟨x,h1,h2⟩:=hr
  split at h2
  · rename_i hc
    simp only [Option.some.injEq] at h2
    rw [h1,← h2]
    simp [fixLen,hc]
  · cases h2
@[simp] theorem g27_app (y0 y1)(y2:List (Int × Int × Str))(y3){n1:Nat}(h1:n1 = y2.length):g27_r [(.agg [(.int .i64 y0),(.int .i64 y1),(ow 0 n1)]),(.int .i64 y3)] [(ob 3 y2)] = ((laws_markHeader_o63 y0 y1 y2 y3).bind fun r=>if r.1.length = y2.length then some ((fixLen y2 r.1),r.2) else none).map g27_O:=by
  subst h1
  exact RmO_app (enc:=g27_E) (encB:=g27_B) (by intro a b h h2; simp [g27_E,g27_B,Prod.ext_iff] at h h2 ⊢; simp [h,h2]) (y0,y1,y2,y3)
/-! laws.heldMessageS -/
def g42l1_cb:TC:=(.seq (sq [mo 6 5,mo 7 0,le 8 7,bn 9 .lss (.t 6) (.t 8)] [0,1,5,9] (.cond (.t 9) .skip (.keep (kp [(1,0)] [] 0) (.exit 0)))) (.trim [0,1,5] (.seq (.block 1 (.seq (sq [mo 12 0,mo 13 5,ia 14 3 12 13,fa 15 0 14,ld 16 15,mo 17 1,bn 18 .neq (.t 16) (.t 17)] [0,1,5,18] (.cond (.t 18) (.seq (.ops [mk 4 (ki (-1))]) (.keep (kp [(4,0)] [] 0) .ret)) .skip)) (.trim [0,1,5] (sq [mo 19 1,bn 20 .add (.t 19) (ki 1),mo 1 20] [0,1,5] (.seq (sq [mo 21 0,mo 22 5,ia 23 3 21 22,fa 24 1 23,ld 25 24,mo 26 1,bn 27 .neq (.t 25) (.t 26)] [0,1,5,27] (.cond (.t 27) (.seq (.ops [mk 4 (ki (-1))]) (.keep (kp [(4,0)] [] 0) .ret)) .skip)) (.trim [0,1,5] (sq [mo 28 1,bn 29 .add (.t 28) (ki 1),mo 1 29] [0,1,5] (.seq (.seq (.draw [([],mo 30 0),([],mo 31 5),([0,1],ia 32 3 30 31),([0,1,2],fa 33 2 32),([0,1,2,3],ld 34 33),([],mo 35 1),([5],ca 36 84 [.t 35])] [oo 37 (.bin .str .neq (.t 34) (.t 36))]) (.trim [0,1,5,37] (.cond (.t 37) (.seq (.ops [mk 4 (ki (-1))]) (.keep (kp [(4,0)] [] 0) .ret)) .skip))) (.trim [0,1,5] (.ops [mo 38 1,bn 39 .add (.t 38) (ki 1),mo 1 39])))))))))) (.trim [0,1,5] (.after (.ops [mo 10 5,bn 11 .add (.t 10) (ki 1),mo 5 11]) (kp [(0,0),(1,0),(5,0)] [] 0))))))
def g42l1_c:TC:=.loop [0,1,5] g42l1_cb
def g42_tf:TFn:=⟨(sq [mk 4 (ki 0)] [0,1] (.seq (sq [mk 5 (ki 0)] [0,1,5] (.block 0 (.keep (kp [(0,0),(1,0),(5,0)] [] 0) g42l1_c))) (.trim [1] (.seq (.ops [mo 40 1,mo 4 40]) (.keep (kp [(4,0)] [] 0) .ret))))),[.t 4]⟩
abbrev g42_S:=Sys.on [(84,g79_r)] []
@[reducible,simp] def g42l1_F:((Int) ⊕ (Int)) → Out:=(Sum.elim (fun t=>(.ext 0,[(1,(.int .i64 t))],[])) (fun t=>(.ret,[(4,(.int .i64 t))],[])))
def laws_heldMessageS_l1_b (v1:List (Int × Int × Str)) (v2:Int) (v3:Int):Option ((Int × Int) ⊕ ((Int) ⊕ (Int))):=if v3 < (v1.length:Int) then if 0 ≤ v3 then (v1[(v3).toNat]?).bind fun x4=>if ¬(x4.1 = v2) then some (.inr (.inr ((-1)))) else if 0 ≤ v3 then (v1[(v3).toNat]?).bind fun x5=>if ¬(x5.2.1 = (IntKind.i64.wrap (v2 + 1))) then some (.inr (.inr ((-1)))) else if 0 ≤ v3 then (v1[(v3).toNat]?).bind fun x6=>(laws_markText ((IntKind.i64.wrap ((IntKind.i64.wrap (v2 + 1)) + 1)))).bind fun r7=>if ¬(x6.2.2 = r7) then some (.inr (.inr ((-1)))) else some (.inl ((IntKind.i64.wrap ((IntKind.i64.wrap ((IntKind.i64.wrap (v2 + 1)) + 1)) + 1)),(IntKind.i64.wrap (v3 + 1)))) else none else none else none else some (.inr (.inl v2))
theorem g42l1_b_eq  (v1:List (Int × Int × Str)) (v2:Int) (v3:Int):X g42_S g42l1_cb (keepEnv [0,1,5] [(0,(.vs (rows v1))),(1,(.int .i64 v2)),(5,(.int .i64 v3))]) [] = (laws_heldMessageS_l1_b v1 v2 v3).map (Sum.elim (fun s=>(TX.nrm,[(0,(.vs (rows v1))),(1,(.int .i64 s.1)),(5,(.int .i64 s.2))],[])) g42l1_F):=by
  simp (maxSteps:=2000000) (maxDischargeDepth:=8) -implicitDefEqProofs [g42l1_cb,laws_heldMessageS_l1_b] <;> (try simp only [map_to_bind,some_elim,g42l1_F])
def laws_heldMessageS_l1 (v1:List (Int × Int × Str)) (s:Int × Int):Option ((Int) ⊕ (Int)):=loopO (fun s=>laws_heldMessageS_l1_b v1 s.1 s.2) s
@[simp] theorem g42l1_eq (y0 y1 y2):X g42_S g42l1_c [(0,(.vs (rows y0))),(1,(.int .i64 y1)),(5,(.int .i64 y2))] [] = (laws_heldMessageS_l1 y0 (y1,y2)).map g42l1_F:=by
  exact loop_X _ _ _ _ (by intro r; first | (simp; done) | (rcases r with r | r <;> simp; done) | (rcases r with r | r | r <;> simp; done) | (rcases r with r | r | r | r <;> simp)) (fun s=>g42l1_b_eq  y0 s.1 s.2) (y1,y2)
def laws_heldMessageS (a_a:List (Int × Int × Str)) (a_k:Int):Option (Int):=(laws_heldMessageS_l1 a_a ((a_k,0))).bind fun r8=>Sum.elim (fun u9=>some u9) (fun u10=>some u10) r8
@[simp] def g42_O:Int → TV × List Blk:=fun r=>((.int .i64 r),[])
def g42_E (a:(List (Int × Int × Str)) × Int):List TV:=[(.vs (rows a.1)),(.int .i64 a.2)]
theorem g42_run (a_a:List (Int × Int × Str)) (a_k:Int) :callFn (X g42_S) g42_tf (g42_E (a_a,a_k)) [] = (laws_heldMessageS a_a a_k).map g42_O:=by
  rw [callFn_eq]
  simp (maxSteps:=2000000) (maxDischargeDepth:=8) -implicitDefEqProofs [g42_tf,laws_heldMessageS,g42_E] <;> (try simp only [map_to_bind,some_elim,g42_O])
def g42_r:Rule:=RlO g42_E (fun a=>laws_heldMessageS a.1 a.2) g42_O
theorem g42_ok:RuleOk Tryz.prog 41 g42_r:=ok_rlo (S:=g42_S) (tf:=g42_tf) (SysOk.on ⟨g79_ok,trivial⟩ trivial) (trE_ok (ks:=[[0,1,5],[7]]) Tryz.func41 (by kernel_rfl)) fun a=>g42_run a.1 a.2
@[simp] theorem g42_app (y0 y1):g42_r [(.vs (rows y0)),(.int .i64 y1)] = (laws_heldMessageS y0 y1).map g42_O :=
  RlO_app (enc:=g42_E) (by intro a b h; simp [g42_E,Prod.ext_iff] at h ⊢; simp [h]) (y0,y1)
/-! laws.heldHeader -/
def g58_tf:TFn:=⟨(sq [bx 2 0,mk 4 (ki 0)] [1,2] (sq [fa 5 2 2,ld 6 5,mo 7 1,ca 8 41 [.t 6,.t 7],mo 1 8] [1] (.seq (sq [mo 9 1,bn 10 .lss (.t 9) (ki 0)] [1,10] (.cond (.t 10) (.seq (.ops [mk 4 (ki (-1))]) (.keep (kp [(4,0)] [] 0) .ret)) .skip)) (.trim [1] (.seq (.ops [mo 11 1,mo 4 11]) (.keep (kp [(4,0)] [] 0) .ret)))))),[.t 4]⟩
abbrev g58_S:=Sys.on [(41,g42_r)] []
def laws_heldHeader (a_a:K2) (a_k:Int):Option (Int):=(laws_heldMessageS a_a.2.2 a_k).bind fun r1=>if r1 < 0 then some ((-1)) else some r1
@[simp] def g58_O:Int → TV × List Blk:=fun r=>((.int .i64 r),[])
def g58_E (a:K2 × Int):List TV:=[(.agg [(.int .i64 a.1.1),(.int .i64 a.1.2.1),(.vs (rows a.1.2.2))]),(.int .i64 a.2)]
theorem g58_run (a_a:K2) (a_k:Int) :callFn (X g58_S) g58_tf (g58_E (a_a,a_k)) [] = (laws_heldHeader a_a a_k).map g58_O:=by
  rw [callFn_eq]
  simp (maxSteps:=2000000) (maxDischargeDepth:=8) -implicitDefEqProofs [g58_tf,laws_heldHeader,g58_E] <;> (try simp only [map_to_bind,some_elim,g58_O])
def g58_r:Rule:=RlO g58_E (fun a=>laws_heldHeader a.1 a.2) g58_O
theorem g58_ok:RuleOk Tryz.prog 19 g58_r:=ok_rlo (S:=g58_S) (tf:=g58_tf) (SysOk.on ⟨g42_ok,trivial⟩ trivial) (trE_ok (ks:=[]) Tryz.func19 (by kernel_rfl)) fun a=>g58_run a.1 a.2
@[simp] theorem g58_app (y0 y1 y2 y3):g58_r [(.agg [(.int .i64 y0),(.int .i64 y1),(.vs (rows y2))]),(.int .i64 y3)] = (laws_heldHeader ((y0,y1,y2)) y3).map g58_O :=
  RlO_app (enc:=g58_E) (by intro a b h; simp [g58_E,Prod.ext_iff] at h ⊢; simp [h]) ((y0,y1,y2),y3)
/-! laws.FnExactReadHeader -/
def g17_tf:TFn:=⟨(sq [bx 2 0,mk 4 (kb false)] [1,2] (sq [mk 5 (ki 1048576)] [1,2,5] (sq [ln 16 12 2,mo 17 5,ca 18 6 [.t 16,.t 17],mo 5 18] [1,2,5] (.seq (sq [mo 19 5,bn 20 .lss (.t 19) (ki 0)] [1,2,20] (.cond (.t 20) (.seq (.ops [mk 4 (kb true)]) (.keep (kp [(4,0)] [] 0) .ret)) .skip)) (.trim [1,2] (sq [ln 22 12 2,ca 23 8 [.t 22],mo 24 1,ca 25 15 [.t 23,.t 24],mo 21 25,oo 26 (.ext (.t 21) 0),oo 27 (.ext (.t 21) 1),oo 6 (.alloc [(.int .i64 0),(.int .i64 0),.nils]),⟨none,none,(.store 3 (.t 6) (.t 26))⟩,mo 7 27] [1,2,6,7] (sq [ln 28 12 2,ca 29 8 [.t 28],oo 8 (.alloc [.nils,.nils,(.int .i64 0),(.bool false),(.int .i64 0),(.int .i64 0),(.int .i64 0),(.int .i64 0),(.int .i64 0),(.int .i64 0),.nils,.nils]),⟨none,none,(.store 12 (.t 8) (.t 29))⟩] [1,2,6,7,8] (sq [ln 31 12 8,mo 32 1,ca 33 16 [.t 31,.t 32],mo 30 33,oo 34 (.ext (.t 30) 0),oo 35 (.ext (.t 30) 1),oo 9 (.alloc [(.int .i64 0),(.int .i64 0),.nils]),⟨none,none,(.store 3 (.t 9) (.t 34))⟩,mo 10 35] [1,2,6,7,8,9,10] (.seq (sq [ln 36 3 9,ln 37 3 6,ca 38 17 [.t 36,.t 37],nt 39 38,mo 40 39,⟨(some 41),(some (40,false)),(.mv (.t 10))⟩,⟨(some 42),(some (40,false)),(.mv (.t 7))⟩,⟨(some 43),(some (40,false)),(.bin .num .neq (.t 41) (.t 42))⟩,pk 44 (.t 40) (kb true) (.t 43)] [1,2,6,7,8,9,10,44] (.cond (.t 44) (.seq (.ops [mk 4 (kb false)]) (.keep (kp [(4,0)] [] 0) .ret)) .skip)) (.trim [1,2,6,7,8,9,10] (.seq (.seq (.draw [([],ln 45 12 8),([],ln 46 12 2),([1],ca 47 8 [.t 46])] [ca 48 11 [.t 45,.t 47],nt 49 48]) (.trim [1,2,6,7,8,9,10,49] (.cond (.t 49) (.seq (.ops [mk 4 (kb false)]) (.keep (kp [(4,0)] [] 0) .ret)) .skip))) (.trim [1,2,6,7,8,9,10] (sq [mk 11 (ki 1)] [1,2,6,7,8,9,10,11] (sq [ln 50 12 8,mo 51 11,oo 52 (.callM 12 0 [10,11,12,13] [.t 50,.t 51]),mo 11 52] [1,2,6,7,9,10,11] (.seq (sq [mo 53 11,bn 54 .lss (.t 53) (ki 0),mo 55 54,⟨(some 56),(some (55,false)),(.load (some 3) (.t 9))⟩,⟨(some 57),(some (55,false)),(.load (some 3) (.t 6))⟩,⟨(some 58),(some (55,false)),(.call 17 [.t 56,.t 57])⟩,⟨(some 59),(some (55,false)),(.un .not (.t 58))⟩,pk 60 (.t 55) (kb true) (.t 59),mo 61 60,⟨(some 62),(some (61,false)),(.mv (.t 10))⟩,⟨(some 63),(some (61,false)),(.mv (.t 7))⟩,⟨(some 64),(some (61,false)),(.bin .num .neq (.t 62) (.t 63))⟩,pk 65 (.t 61) (kb true) (.t 64)] [1,2,6,7,9,65] (.cond (.t 65) (.seq (.ops [mk 4 (kb false)]) (.keep (kp [(4,0)] [] 0) .ret)) .skip)) (.trim [1,2,6,7,9] (sq [mk 12 (ki 1)] [1,2,6,7,9,12] (sq [ln 66 3 9,mo 67 12,oo 68 (.callM 18 0 [16] [.t 66,.t 67]),mo 12 68] [1,2,6,7,9,12] (sq [mk 13 (ki 1)] [1,2,6,7,9,12,13] (sq [ln 69 3 9,mo 70 13,ca 71 19 [.t 69,.t 70],mo 13 71] [1,2,6,7,9,12,13] (.seq (sq [mo 72 13,bn 73 .lss (.t 72) (ki 0)] [1,2,6,7,9,12,13,73] (.cond (.t 73) (.seq (.ops [mk 4 (kb false)]) (.keep (kp [(4,0)] [] 0) .ret)) .skip)) (.trim [1,2,6,7,9,12,13] (.seq (sq [mo 74 13,mo 75 12,bn 76 .neq (.t 74) (.t 75)] [1,2,6,7,9,12,76] (.cond (.t 76) (.seq (.ops [mk 4 (kb false)]) (.keep (kp [(4,0)] [] 0) .ret)) .skip)) (.trim [1,2,6,7,9,12] (sq [ln 78 12 2,ca 79 8 [.t 78],mo 80 1,ca 81 16 [.t 79,.t 80],mo 77 81,oo 82 (.ext (.t 77) 0),oo 83 (.ext (.t 77) 1),oo 14 (.alloc [(.int .i64 0),(.int .i64 0),.nils]),⟨none,none,(.store 3 (.t 14) (.t 82))⟩,mo 15 83] [6,7,9,12,14,15] (.seq (sq [ln 84 3 14,ln 85 3 6,ca 86 17 [.t 84,.t 85],nt 87 86,mo 88 87,⟨(some 89),(some (88,false)),(.mv (.t 15))⟩,⟨(some 90),(some (88,false)),(.mv (.t 7))⟩,⟨(some 91),(some (88,false)),(.bin .num .neq (.t 89) (.t 90))⟩,pk 92 (.t 88) (kb true) (.t 91)] [9,12,92] (.cond (.t 92) (.seq (.ops [mk 4 (kb false)]) (.keep (kp [(4,0)] [] 0) .ret)) .skip)) (.trim [9,12] (sq [mk 13 (ki 1)] [9,12,13] (sq [ln 93 3 9,mo 94 13,ca 95 19 [.t 93,.t 94],mo 13 95] [12,13] (.seq (sq [mo 96 13,bn 97 .lss (.t 96) (ki 0)] [12,13,97] (.cond (.t 97) (.seq (.ops [mk 4 (kb false)]) (.keep (kp [(4,0)] [] 0) .ret)) .skip)) (.trim [12,13] (.seq (sq [mo 98 13,mo 99 12,bn 100 .neq (.t 98) (.t 99)] [100] (.cond (.t 100) (.seq (.ops [mk 4 (kb false)]) (.keep (kp [(4,0)] [] 0) .ret)) .skip)) (.trim [] (.seq (.ops [mk 4 (kb true)]) (.keep (kp [(4,0)] [] 0) .ret))))))))))))))))))))))))))))))))))),[.t 4]⟩
abbrev g17_S:=Sys.on [(6,g81_r),(8,g84_r),(15,g48_r),(16,g56_r),(17,g78_r),(11,g99_r),(19,g58_r)] [((12,0),(4,g29_r)),((18,0),(1,g27_r))]
def laws_FnExactReadHeader (a_aP:K1) (a_aAt:Int):Option (Bool):=(laws_szPager a_aP 1048576).bind fun r1=>if r1 < 0 then some true else (laws_toPager a_aP).bind fun r2=>(spec_ReadHeader r2 a_aAt).bind fun r3=>(laws_toPager a_aP).bind fun r4=>(impl_ReadHeader r4 a_aAt).bind fun r5=>(laws_eqHeader r5.1 r3.1).bind fun r6=>if ¬(r6 = true) then some false else if ¬(r5.2 = r3.2) then some false else (laws_toPager a_aP).bind fun r7=>(laws_eqPager r4 r7).bind fun r8=>if ¬(r8 = true) then some false else (laws_markPager_o71 r4.1.1 r4.1.2.1 r4.1.2.2.1 r4.1.2.2.2 r4.2.1.1 r4.2.1.2.1 r4.2.1.2.2.1 r4.2.1.2.2.2 r4.2.2.1 r4.2.2.2.1 r4.2.2.2.2.1 r4.2.2.2.2.2 1).bind fun r9=>if r9.1.length = r4.1.1.length ∧ r9.2.1.length = r4.1.2.1.length ∧ r9.2.2.1.length = r4.2.2.2.2.1.length ∧ r9.2.2.2.1.length = r4.2.2.2.2.2.length then if r9.2.2.2.2 < 0 then some false else (laws_eqHeader r5.1 r3.1).bind fun r10=>if ¬(r10 = true) then some false else if ¬(r5.2 = r3.2) then some false else (laws_markHeader_o63 r5.1.1 r5.1.2.1 r5.1.2.2 1).bind fun r11=>if r11.1.length = r5.1.2.2.length then (laws_heldHeader ((r5.1.1,r5.1.2.1,(fixLen r5.1.2.2 r11.1))) 1).bind fun r12=>if r12 < 0 then some false else if ¬(r12 = r11.2) then some false else (laws_toPager a_aP).bind fun r13=>(impl_ReadHeader r13 a_aAt).bind fun r14=>(laws_eqHeader r14.1 r3.1).bind fun r15=>if ¬(r15 = true) then some false else if ¬(r14.2 = r3.2) then some false else (laws_heldHeader ((r5.1.1,r5.1.2.1,(fixLen r5.1.2.2 r11.1))) 1).bind fun r16=>if r16 < 0 then some false else if ¬(r16 = r11.2) then some false else some true else none else none
@[simp] def g17_O:Bool → TV × List Blk:=fun r=>((.bool r),[])
def g17_E (a:K1 × Int):List TV:=[(.agg [(.vs (rows a.1.1.1)),(.vs (rows a.1.1.2.1)),(.int .i64 a.1.1.2.2.1),(.bool a.1.1.2.2.2),(.int .i64 a.1.2.1.1),(.int .i64 a.1.2.1.2.1),(.int .i64 a.1.2.1.2.2.1),(.int .i64 a.1.2.1.2.2.2),(.int .i64 a.1.2.2.1),(.int .i64 a.1.2.2.2.1),(.vs (rows a.1.2.2.2.2.1)),(.vs (rows a.1.2.2.2.2.2))]),(.int .i64 a.2)]
theorem g17_run (a_aP:K1) (a_aAt:Int) :callFn (X g17_S) g17_tf (g17_E (a_aP,a_aAt)) [] = (laws_FnExactReadHeader a_aP a_aAt).map g17_O:=by
  rw [callFn_eq]
  simp (maxSteps:=2000000) (maxDischargeDepth:=8) -implicitDefEqProofs [g17_tf,laws_FnExactReadHeader,g17_E] <;> (try simp only [map_to_bind,some_elim,g17_O])
def laws_FnExactReadHeader_r:Rule:=RlO g17_E (fun a=>laws_FnExactReadHeader a.1 a.2) g17_O
theorem laws_FnExactReadHeader_ok:RuleOk Tryz.prog 4 laws_FnExactReadHeader_r:=ok_rlo (S:=g17_S) (tf:=g17_tf) (SysOk.on ⟨g81_ok,g84_ok,g48_ok,g56_ok,g78_ok,g99_ok,g58_ok,trivial⟩ ⟨g29_ok,g27_ok,trivial⟩) (trE_ok (ks:=[[3]]) Tryz.func4 (by kernel_rfl)) fun a=>g17_run a.1 a.2
@[simp] theorem laws_FnExactReadHeader_app (y0 y1 y2 y3 y4 y5 y6 y7 y8 y9 y10 y11 y12):laws_FnExactReadHeader_r [(.agg [(.vs (rows y0)),(.vs (rows y1)),(.int .i64 y2),(.bool y3),(.int .i64 y4),(.int .i64 y5),(.int .i64 y6),(.int .i64 y7),(.int .i64 y8),(.int .i64 y9),(.vs (rows y10)),(.vs (rows y11))]),(.int .i64 y12)] = (laws_FnExactReadHeader (((y0,y1,y2,y3),(y4,y5,y6,y7),y8,y9,y10,y11)) y12).map g17_O :=
  RlO_app (enc:=g17_E) (by intro a b h; simp [g17_E,Prod.ext_iff] at h ⊢; simp [h]) (((y0,y1,y2,y3),(y4,y5,y6,y7),y8,y9,y10,y11),y12)
end
end Go.Proofs.TM
