/- Functions of the program, as functions of their data: written by program. -/
import Derived.Test.YtcibapigoeknmaaSU0
namespace Go.Proofs.TM
open Go Go.Proofs
set_option linter.unusedVariables false
set_option linter.unusedSimpArgs false
set_option maxHeartbeats 1000000
attribute [-simp] Option.map_bind strV_some
attribute [simp] guardOn_bool sA_bslice Function.comp_def
noncomputable section
/-! spec.l01Within -/
def g35_tf:TFn:=⟨(sq [mk 6 (kb false)] [0,1,2] (.seq (.after (.ops [mo 7 2,ca 8 35 [.t 7,ki 1,ki 8],mo 9 8,⟨(some 10),(some (9,true)),(.mv (.t 1))⟩,⟨(some 11),(some (9,true)),(.mv (.t 0))⟩,⟨(some 12),(some (9,true)),(.len true (.t 11))⟩,⟨(some 13),(some (9,true)),(.call 35 [.t 10,ki 0,.t 12])⟩,pk 14 (.t 9) (.t 13) (kb false),mo 15 14,⟨(some 16),(some (15,true)),(.mv (.t 2))⟩,⟨(some 17),(some (15,true)),(.mv (.t 0))⟩,⟨(some 18),(some (15,true)),(.len true (.t 17))⟩,⟨(some 19),(some (15,true)),(.mv (.t 1))⟩,⟨(some 20),(some (15,true)),(.bin .num .sub (.t 18) (.t 19))⟩,⟨(some 21),(some (15,true)),(.bin .num .leq (.t 16) (.t 20))⟩,pk 22 (.t 15) (.t 21) (kb false),mo 6 22]) (kp [(6,0)] [] 0)) (.keep (kp [(6,0)] [] 0) .ret))),[.t 6]⟩
abbrev g35_S:=Sys.on [(35,g61_r)] []
def spec_l01Within (a_s:Str) (a_at:Int) (a_size:Int):Option (Bool):=(spec_l00In a_size 1 8).bind fun r1=>if r1 = true then (spec_l00In a_at 0 ((a_s.length:Int))).bind fun r2=>if r2 = true then some ((decide (a_size ≤ (IntKind.i64.wrap ((a_s.length:Int) - a_at))))) else some false else some false
@[simp] def g35_O:Bool → TV × List Blk:=fun r=>((.bool r),[])
def g35_E (a:Str × Int × Int):List TV:=[(.str a.1),(.int .i64 a.2.1),(.int .i64 a.2.2)]
theorem g35_run (a_s:Str) (a_at:Int) (a_size:Int) :callFn (X g35_S) g35_tf (g35_E (a_s,a_at,a_size)) [] = (spec_l01Within a_s a_at a_size).map g35_O:=by
  rw [callFn_eq]
  simp (maxSteps:=2000000) (maxDischargeDepth:=8) -implicitDefEqProofs [g35_tf,spec_l01Within,g35_E] <;> (try simp only [map_to_bind,some_elim,g35_O])
def g35_r:Rule:=RlO g35_E (fun a=>spec_l01Within a.1 a.2.1 a.2.2) g35_O
theorem g35_ok:RuleOk Try.prog 46 g35_r:=ok_rlo (S:=g35_S) (tf:=g35_tf) (SysOk.on ⟨g61_ok,trivial⟩ trivial) (trE_ok (ks:=[]) Try.func46 (by kernel_rfl)) fun a=>g35_run a.1 a.2.1 a.2.2
@[simp] theorem g35_app (y0 y1 y2):g35_r [(.str y0),(.int .i64 y1),(.int .i64 y2)] = (spec_l01Within y0 y1 y2).map g35_O :=
  RlO_app (enc:=g35_E) (by intro a b h; simp [g35_E,Prod.ext_iff] at h ⊢; simp [h]) (y0,y1,y2)
/-! spec.l01GetUint -/
def g29l2_cb:TC:=(.seq (sq [mo 28 9,bn 29 .geq (.t 28) (ki 0)] [0,1,8,9,29] (.cond (.t 29) .skip (.keep (kp [(8,0)] [] 0) (.exit 0)))) (.trim [0,1,8,9] (.seq (.block 1 (.ops [mo 32 8,bn 33 .mul (.t 32) (ki 256),mo 34 0,mo 35 1,mo 36 9,bn 37 .add (.t 35) (.t 36),oo 38 (.index (.t 34) (.t 37)),oo 39 (.conv (.toInt .i64) (.t 38)),bn 40 .add (.t 33) (.t 39),mo 8 40])) (.trim [0,1,8,9] (.after (.ops [mo 30 9,bn 31 .sub (.t 30) (ki 1),mo 9 31]) (kp [(0,0),(1,0),(8,0),(9,0)] [] 0))))))
def g29l2_c:TC:=.loop [0,1,8,9] g29l2_cb
def g29p1_c:TC:=(sq [mk 8 (ki 0)] [0,1,2,8] (.seq (sq [mo 26 2,bn 27 .sub (.t 26) (ki 1),mo 9 27] [0,1,8,9] (.block 0 (.keep (kp [(0,0),(1,0),(8,0),(9,0)] [] 0) g29l2_c))) (.trim [8] (.seq (.ops [mo 41 8,mo 6 41,mk 7 (kb true)]) (.keep (kp [(6,0),(7,0)] [] 0) .ret)))))
def g29_tf:TFn:=⟨(sq [mk 6 (ki 0),mk 7 (kb false)] [0,1,2] (.seq (sq [mo 10 0,mo 11 1,mo 12 2,ca 13 46 [.t 10,.t 11,.t 12],nt 14 13,mo 15 14,⟨(some 16),(some (15,false)),(.mv (.t 2))⟩,⟨(some 17),(some (15,false)),(.bin .num .eql (.t 16) (ki 8))⟩,⟨(some 18),(some (15,false)),(.mv (.t 17))⟩,⟨(some 19),(some (18,true)),(.mv (.t 0))⟩,⟨(some 20),(some (18,true)),(.mv (.t 1))⟩,⟨(some 21),(some (18,true)),(.bin .num .add (.t 20) (ki 7))⟩,⟨(some 22),(some (18,true)),(.index (.t 19) (.t 21))⟩,⟨(some 23),(some (18,true)),(.bin .num .gtr (.t 22) (.c (.int .u8 127)))⟩,⟨(some 24),(some (15,false)),(.pick (.t 18) (.t 23) (kb false))⟩,pk 25 (.t 15) (kb true) (.t 24)] [0,1,2,25] (.cond (.t 25) (.seq (.ops [mk 6 (ki 0),mk 7 (kb false)]) (.keep (kp [(6,0),(7,0)] [] 0) .ret)) (.keep (kp [(0,0),(1,0),(2,0)] [] 0) .skip))) (.trim [0,1,2] g29p1_c))),[.t 6,.t 7]⟩
abbrev g29_S:=Sys.on [(46,g35_r)] []
@[reducible,simp] def g29l2_F:Int → Out:=(fun t=>(.ext 0,[(8,(.int .i64 t))],[]))
def spec_l01GetUint_l2_b (v6:Str) (v7:Int) (v8:Int) (v9:Int):Option ((Int × Int) ⊕ (Int)):=if v9 ≥ 0 then if 0 ≤ (IntKind.i64.wrap (v7 + v9)) then (v6[((IntKind.i64.wrap (v7 + v9))).toNat]?).bind fun (b10:UInt8)=>some (.inl ((IntKind.i64.wrap ((IntKind.i64.wrap (v8 * 256)) + (IntKind.i64.wrap ((b10.toNat:Int))))),(IntKind.i64.wrap (v9 - 1)))) else none else some (.inr v8)
theorem g29l2_b_eq  (v6:Str) (v7:Int) (v8:Int) (v9:Int):X g29_S g29l2_cb (keepEnv [0,1,8,9] [(0,(.str v6)),(1,(.int .i64 v7)),(8,(.int .i64 v8)),(9,(.int .i64 v9))]) [] = (spec_l01GetUint_l2_b v6 v7 v8 v9).map (Sum.elim (fun s=>(TX.nrm,[(0,(.str v6)),(1,(.int .i64 v7)),(8,(.int .i64 s.1)),(9,(.int .i64 s.2))],[])) g29l2_F):=by
  simp (maxSteps:=2000000) (maxDischargeDepth:=8) -implicitDefEqProofs [g29l2_cb,spec_l01GetUint_l2_b] <;> (try simp only [map_to_bind,some_elim,g29l2_F])
def spec_l01GetUint_l2 (v6:Str) (v7:Int) (s:Int × Int):Option (Int):=loopO (fun s=>spec_l01GetUint_l2_b v6 v7 s.1 s.2) s
@[simp] theorem g29l2_eq (y0 y1 y2 y3):X g29_S g29l2_c [(0,(.str y0)),(1,(.int .i64 y1)),(8,(.int .i64 y2)),(9,(.int .i64 y3))] [] = (spec_l01GetUint_l2 y0 y1 (y2,y3)).map g29l2_F:=by
  exact loop_X _ _ _ _ (by intro r; first | (simp; done) | (rcases r with r | r <;> simp; done) | (rcases r with r | r | r <;> simp; done) | (rcases r with r | r | r | r <;> simp)) (fun s=>g29l2_b_eq  y0 y1 s.1 s.2) (y2,y3)
@[reducible,simp] def g29p1_F:(Int × Bool) → Out:=(fun t=>(.ret,[(6,(.int .i64 t.1)),(7,(.bool t.2))],[]))
def spec_l01GetUint_p1 (v3:Str) (v4:Int) (v5:Int):Option (Int × Bool):=(spec_l01GetUint_l2 v3 v4 ((0,(IntKind.i64.wrap (v5 - 1))))).bind fun r11=>some ((r11,true))
@[simp] theorem g29p1_eq (y0 y1 y2):X g29_S g29p1_c [(0,(.str y0)),(1,(.int .i64 y1)),(2,(.int .i64 y2))] [] = (spec_l01GetUint_p1 y0 y1 y2).map g29p1_F:=by
  simp (maxSteps:=2000000) (maxDischargeDepth:=8) -implicitDefEqProofs [g29p1_c,spec_l01GetUint_p1] <;> (try simp only [map_to_bind,some_elim,g29p1_F])
def spec_l01GetUint (a_s:Str) (a_at:Int) (a_size:Int):Option (Int × Bool):=(spec_l01Within a_s a_at a_size).bind fun r1=>if ¬(r1 = true) then some (0,false) else if a_size = 8 then if 0 ≤ (IntKind.i64.wrap (a_at + 7)) then (a_s[((IntKind.i64.wrap (a_at + 7))).toNat]?).bind fun (b2:UInt8)=>if (b2.toNat:Int) > 127 then some (0,false) else (spec_l01GetUint_p1 a_s a_at a_size).bind fun r12=>some (r12.1,r12.2) else none else (spec_l01GetUint_p1 a_s a_at a_size).bind fun r13=>some (r13.1,r13.2)
@[simp] def g29_O:(Int × Bool) → TV × List Blk:=fun r=>((.tup [(.int .i64 r.1),(.bool r.2)]),[])
def g29_E (a:Str × Int × Int):List TV:=[(.str a.1),(.int .i64 a.2.1),(.int .i64 a.2.2)]
theorem g29_run (a_s:Str) (a_at:Int) (a_size:Int) :callFn (X g29_S) g29_tf (g29_E (a_s,a_at,a_size)) [] = (spec_l01GetUint a_s a_at a_size).map g29_O:=by
  rw [callFn_eq]
  simp (maxSteps:=2000000) (maxDischargeDepth:=8) -implicitDefEqProofs [g29_tf,spec_l01GetUint,g29_E] <;> (try simp only [map_to_bind,some_elim,g29_O])
def g29_r:Rule:=RlO g29_E (fun a=>spec_l01GetUint a.1 a.2.1 a.2.2) g29_O
theorem g29_ok:RuleOk Try.prog 20 g29_r:=ok_rlo (S:=g29_S) (tf:=g29_tf) (SysOk.on ⟨g35_ok,trivial⟩ trivial) (trE_ok (ks:=[[0,1,8,9]]) Try.func20 (by kernel_rfl)) fun a=>g29_run a.1 a.2.1 a.2.2
@[simp] theorem g29_app (y0 y1 y2):g29_r [(.str y0),(.int .i64 y1),(.int .i64 y2)] = (spec_l01GetUint y0 y1 y2).map g29_O :=
  RlO_app (enc:=g29_E) (by intro a b h; simp [g29_E,Prod.ext_iff] at h ⊢; simp [h]) (y0,y1,y2)
/-! spec.DecodeSuper -/
def g22p2_c:TC:=(sq [mo 39 6] [0,2,4,5,6,9,39] (.block 2 (sq [bn 43 .eql (.t 39) (ki 0),mo 42 43] [0,2,4,5,6,9,39,42] (.cond (.t 42) (.after (.ops [mo 44 9,fa 45 0 4,⟨none,none,(.store 1 (.t 45) (.t 44))⟩]) (kp [(0,0),(2,0),(4,0),(5,0),(6,0)] [(0,0),(1,0)] 0)) (sq [bn 47 .eql (.t 39) (ki 1),mo 46 47] [0,2,4,5,6,9,39,46] (.cond (.t 46) (.after (.ops [mo 48 9,fa 49 1 4,⟨none,none,(.store 1 (.t 49) (.t 48))⟩]) (kp [(0,0),(2,0),(4,0),(5,0),(6,0)] [(0,0),(1,0)] 0)) (sq [bn 51 .eql (.t 39) (ki 2),mo 50 51] [0,2,4,5,6,9,50] (.cond (.t 50) (.after (.ops [mo 52 9,fa 53 2 4,⟨none,none,(.store 1 (.t 53) (.t 52))⟩]) (kp [(0,0),(2,0),(4,0),(5,0),(6,0)] [(0,0),(1,0)] 0)) (.after (.ops [mo 40 9,fa 41 3 4,⟨none,none,(.store 1 (.t 41) (.t 40))⟩]) (kp [(0,0),(2,0),(4,0),(5,0),(6,0)] [(0,0),(1,0)] 0))))))))))
def g22l1_cb:TC:=(.seq (sq [mo 16 6,bn 17 .lss (.t 16) (ki 4)] [0,2,4,5,6,17] (.cond (.t 17) .skip (.keep (kp [(0,0),(2,0),(4,0),(5,0)] [(0,0),(1,0)] 0) (.exit 0)))) (.trim [0,2,4,5,6] (.seq (.block 1 (sq [oo 20 (.bslice [(.int .i64 0)] 4 [(0,(ki 5)),(1,(ki 7)),(2,(ki 9)),(3,(ki 17))]),mo 21 6,ia 22 1 20 21,ld 23 22,mo 7 23] [0,2,4,5,6,7] (sq [oo 24 (.bslice [(.int .i64 0)] 4 [(0,(ki 2)),(1,(ki 2)),(2,(ki 8)),(3,(ki 8))]),mo 25 6,ia 26 1 24 25,ld 27 26,mo 8 27] [0,2,4,5,6,7,8] (sq [mo 29 0,mo 30 7,mo 31 8,ca 32 20 [.t 29,.t 30,.t 31],mo 28 32,oo 33 (.ext (.t 28) 0),oo 34 (.ext (.t 28) 1),mo 9 33,mo 10 34] [0,2,4,5,6,9,10] (.seq (.after (.ops [mo 35 5,mo 36 35,⟨(some 37),(some (36,true)),(.mv (.t 10))⟩,pk 38 (.t 36) (.t 37) (kb false),mo 5 38]) (kp [(0,0),(2,0),(4,0),(5,0),(6,0),(9,0)] [(0,0),(1,0)] 0)) (.trim [0,2,4,5,6,9] g22p2_c)))))) (.trim [0,2,4,5,6] (.after (.ops [mo 18 6,bn 19 .add (.t 18) (ki 1),mo 6 19]) (kp [(0,0),(2,0),(4,0),(5,0),(6,0)] [(0,0),(1,0)] 0))))))
def g22l1_c:TC:=.loop [0,2,4,5,6] g22l1_cb
def g22_tf:TFn:=⟨(sq [oo 2 (.alloc [(.int .i64 0),(.int .i64 0),(.int .i64 0),(.int .i64 0)]),mk 3 (kb false)] [0,2] (.seq (sq [mo 11 0,oo 12 (.len true (.t 11)),bn 13 .neq (.t 12) (ki 64)] [0,2,13] (.cond (.t 13) (.seq (.ops [oo 14 (.build [(.int .i64 0),(.int .i64 0),(.int .i64 0),(.int .i64 0)] []),⟨none,none,(.store 4 (.t 2) (.t 14))⟩,mk 3 (kb false)]) (.keep (kp [(2,0),(3,0)] [(0,0)] 0) .ret)) .skip)) (.trim [0,2] (sq [oo 15 (.build [(.int .i64 0),(.int .i64 0),(.int .i64 0),(.int .i64 0)] []),oo 4 (.alloc [(.int .i64 0),(.int .i64 0),(.int .i64 0),(.int .i64 0)]),⟨none,none,(.store 4 (.t 4) (.t 15))⟩] [0,2,4] (sq [mk 5 (kb true)] [0,2,4,5] (.seq (sq [mk 6 (ki 0)] [0,2,4,5,6] (.block 0 (.keep (kp [(0,0),(2,0),(4,0),(5,0),(6,0)] [(0,0),(1,0)] 0) g22l1_c))) (.trim [0,2,4,5] (.seq (sq [mo 54 5,nt 55 54,mo 56 55,⟨(some 57),(some (56,false)),(.load (some 4) (.t 4))⟩,⟨(some 58),(some (56,false)),(.call 21 [.t 57])⟩,⟨(some 59),(some (56,false)),(.un .not (.t 58))⟩,pk 60 (.t 56) (kb true) (.t 59),mo 61 60,⟨(some 62),(some (61,false)),(.load (some 4) (.t 4))⟩,⟨(some 63),(some (61,false)),(.call 22 [.t 62])⟩,⟨(some 64),(some (61,false)),(.mv (.t 0))⟩,⟨(some 65),(some (61,false)),(.bin .str .neq (.t 63) (.t 64))⟩,pk 66 (.t 61) (kb true) (.t 65)] [2,4,66] (.cond (.t 66) (.seq (.ops [oo 67 (.build [(.int .i64 0),(.int .i64 0),(.int .i64 0),(.int .i64 0)] []),⟨none,none,(.store 4 (.t 2) (.t 67))⟩,mk 3 (kb false)]) (.keep (kp [(2,0),(3,0)] [(0,0)] 0) .ret)) .skip)) (.trim [2,4] (.seq (.ops [ln 68 4 4,⟨none,none,(.store 4 (.t 2) (.t 68))⟩,mk 3 (kb true)]) (.keep (kp [(2,0),(3,0)] [(0,0)] 0) .ret))))))))))),[.cell 2 (some 4),.t 3]⟩
abbrev g22_S:=Sys.on [(20,g29_r),(21,g28_r),(22,g34_r)] []
@[reducible,simp] def g22p2_F:(Str × (Int × Int × Int × Int) × (Int × Int × Int × Int) × Bool × Int) → Out:=(fun t=>(.nrm,[(0,(.str t.1)),(2,(.ptr 0 0 0)),(4,(.ptr 1 0 0)),(5,(.bool t.2.2.2.1)),(6,(.int .i64 t.2.2.2.2))],[(.live 4 [[(.int .i64 t.2.1.1),(.int .i64 t.2.1.2.1),(.int .i64 t.2.1.2.2.1),(.int .i64 t.2.1.2.2.2)]]),(.live 4 [[(.int .i64 t.2.2.1.1),(.int .i64 t.2.2.1.2.1),(.int .i64 t.2.2.1.2.2.1),(.int .i64 t.2.2.1.2.2.2)]])]))
def spec_DecodeSuper_p2 (v9:Str) (v10:Int × Int × Int × Int) (v11:Int × Int × Int × Int) (v12:Bool) (v13:Int) (v14:Int):Option (Str × (Int × Int × Int × Int) × (Int × Int × Int × Int) × Bool × Int):=if v13 = 0 then some ((v9,v10,(v14,v11.2.1,v11.2.2.1,v11.2.2.2),v12,v13)) else if v13 = 1 then some ((v9,v10,(v11.1,v14,v11.2.2.1,v11.2.2.2),v12,v13)) else if v13 = 2 then some ((v9,v10,(v11.1,v11.2.1,v14,v11.2.2.2),v12,v13)) else some ((v9,v10,(v11.1,v11.2.1,v11.2.2.1,v14),v12,v13))
@[simp] theorem g22p2_eq (y0 y1 y2 y3 y4 y5 y6 y7 y8 y9 y10 y11):X g22_S g22p2_c [(0,(.str y0)),(2,(.ptr 0 0 0)),(4,(.ptr 1 0 0)),(5,(.bool y9)),(6,(.int .i64 y10)),(9,(.int .i64 y11))] [(.live 4 [[(.int .i64 y1),(.int .i64 y2),(.int .i64 y3),(.int .i64 y4)]]),(.live 4 [[(.int .i64 y5),(.int .i64 y6),(.int .i64 y7),(.int .i64 y8)]])] = (spec_DecodeSuper_p2 y0 ((y1,y2,y3,y4)) ((y5,y6,y7,y8)) y9 y10 y11).map g22p2_F:=by
  simp (maxSteps:=2000000) (maxDischargeDepth:=8) -implicitDefEqProofs [g22p2_c,spec_DecodeSuper_p2,bslV_lit (α:=Int) (zs:=[(.int .i64 0)])] <;> (try simp only [map_to_bind,some_elim,g22p2_F])
@[reducible,simp] def g22l1_F:(Str × (Int × Int × Int × Int) × (Int × Int × Int × Int) × Bool) → Out:=(fun t=>(.ext 0,[(0,(.str t.1)),(2,(.ptr 0 0 0)),(4,(.ptr 1 0 0)),(5,(.bool t.2.2.2))],[(.live 4 [[(.int .i64 t.2.1.1),(.int .i64 t.2.1.2.1),(.int .i64 t.2.1.2.2.1),(.int .i64 t.2.1.2.2.2)]]),(.live 4 [[(.int .i64 t.2.2.1.1),(.int .i64 t.2.2.1.2.1),(.int .i64 t.2.2.1.2.2.1),(.int .i64 t.2.2.1.2.2.2)]])]))
def spec_DecodeSuper_l1_b (v1:Str) (v2:Int × Int × Int × Int) (v3:Int × Int × Int × Int) (v4:Bool) (v5:Int):Option ((Str × (Int × Int × Int × Int) × (Int × Int × Int × Int) × Bool × Int) ⊕ (Str × (Int × Int × Int × Int) × (Int × Int × Int × Int) × Bool)):=if v5 < 4 then if 0 ≤ v5 ∧ v5 < (((lit [5,7,9,17]:List Int).length:Nat):Int) then (((lit [5,7,9,17]:List Int))[(v5).toNat]?).bind fun x6=>if 0 ≤ v5 ∧ v5 < (((lit [2,2,8,8]:List Int).length:Nat):Int) then (((lit [2,2,8,8]:List Int))[(v5).toNat]?).bind fun x7=>(spec_l01GetUint v1 x6 x7).bind fun r8=>if v4 = true then (spec_DecodeSuper_p2 v1 v2 v3 r8.2 v5 r8.1).bind fun r15=>some (.inl (r15.1,r15.2.1,r15.2.2.1,r15.2.2.2.1,(IntKind.i64.wrap (r15.2.2.2.2 + 1)))) else (spec_DecodeSuper_p2 v1 v2 v3 false v5 r8.1).bind fun r16=>some (.inl (r16.1,r16.2.1,r16.2.2.1,r16.2.2.2.1,(IntKind.i64.wrap (r16.2.2.2.2 + 1)))) else none else none else some (.inr (v1,v2,v3,v4))
theorem g22l1_b_eq  (v1:Str) (v2:Int × Int × Int × Int) (v3:Int × Int × Int × Int) (v4:Bool) (v5:Int):X g22_S g22l1_cb (keepEnv [0,2,4,5,6] [(0,(.str v1)),(2,(.ptr 0 0 0)),(4,(.ptr 1 0 0)),(5,(.bool v4)),(6,(.int .i64 v5))]) [(.live 4 [[(.int .i64 v2.1),(.int .i64 v2.2.1),(.int .i64 v2.2.2.1),(.int .i64 v2.2.2.2)]]),(.live 4 [[(.int .i64 v3.1),(.int .i64 v3.2.1),(.int .i64 v3.2.2.1),(.int .i64 v3.2.2.2)]])] = (spec_DecodeSuper_l1_b v1 v2 v3 v4 v5).map (Sum.elim (fun s=>(TX.nrm,[(0,(.str s.1)),(2,(.ptr 0 0 0)),(4,(.ptr 1 0 0)),(5,(.bool s.2.2.2.1)),(6,(.int .i64 s.2.2.2.2))],[(.live 4 [[(.int .i64 s.2.1.1),(.int .i64 s.2.1.2.1),(.int .i64 s.2.1.2.2.1),(.int .i64 s.2.1.2.2.2)]]),(.live 4 [[(.int .i64 s.2.2.1.1),(.int .i64 s.2.2.1.2.1),(.int .i64 s.2.2.1.2.2.1),(.int .i64 s.2.2.1.2.2.2)]])])) g22l1_F):=by
  simp (maxSteps:=2000000) (maxDischargeDepth:=8) -implicitDefEqProofs [g22l1_cb,spec_DecodeSuper_l1_b,bslV_lit (α:=Int) (zs:=[(.int .i64 0)])] <;> (try simp only [map_to_bind,some_elim,g22l1_F])
def spec_DecodeSuper_l1  (s:Str × (Int × Int × Int × Int) × (Int × Int × Int × Int) × Bool × Int):Option (Str × (Int × Int × Int × Int) × (Int × Int × Int × Int) × Bool):=loopO (fun s=>spec_DecodeSuper_l1_b  s.1 s.2.1 s.2.2.1 s.2.2.2.1 s.2.2.2.2) s
@[simp] theorem g22l1_eq (y0 y1 y2 y3 y4 y5 y6 y7 y8 y9 y10):X g22_S g22l1_c [(0,(.str y0)),(2,(.ptr 0 0 0)),(4,(.ptr 1 0 0)),(5,(.bool y9)),(6,(.int .i64 y10))] [(.live 4 [[(.int .i64 y1),(.int .i64 y2),(.int .i64 y3),(.int .i64 y4)]]),(.live 4 [[(.int .i64 y5),(.int .i64 y6),(.int .i64 y7),(.int .i64 y8)]])] = (spec_DecodeSuper_l1  (y0,(y1,y2,y3,y4),(y5,y6,y7,y8),y9,y10)).map g22l1_F:=by
  exact loop_X _ _ _ _ (by intro r; first | (simp; done) | (rcases r with r | r <;> simp; done) | (rcases r with r | r | r <;> simp; done) | (rcases r with r | r | r | r <;> simp)) (fun s=>g22l1_b_eq   s.1 s.2.1 s.2.2.1 s.2.2.2.1 s.2.2.2.2) (y0,(y1,y2,y3,y4),(y5,y6,y7,y8),y9,y10)
def spec_DecodeSuper (a_block:Str):Option ((Int × Int × Int × Int) × Bool):=if ¬((a_block.length:Int) = 64) then some ((0,0,0,0),false) else (spec_DecodeSuper_l1 ((a_block,(0,0,0,0),(0,0,0,0),true,0))).bind fun r17=>if ¬(r17.2.2.2 = true) then some ((0,0,0,0),false) else (spec_ValidSuper r17.2.2.1).bind fun r18=>if ¬(r18 = true) then some ((0,0,0,0),false) else (spec_l10Encode r17.2.2.1).bind fun r19=>if ¬(r19 = r17.1) then some ((0,0,0,0),false) else some (r17.2.2.1,true)
@[simp] def g22_O:((Int × Int × Int × Int) × Bool) → TV × List Blk:=fun r=>((.tup [(.agg [(.int .i64 r.1.1),(.int .i64 r.1.2.1),(.int .i64 r.1.2.2.1),(.int .i64 r.1.2.2.2)]),(.bool r.2)]),[(.live 4 [[(.int .i64 r.1.1),(.int .i64 r.1.2.1),(.int .i64 r.1.2.2.1),(.int .i64 r.1.2.2.2)]])])
def g22_E (a:Str):List TV:=[(.str a)]
theorem g22_run (a_block:Str) :callFn (X g22_S) g22_tf (g22_E a_block) [] = (spec_DecodeSuper a_block).map g22_O:=by
  rw [callFn_eq]
  simp (maxSteps:=2000000) (maxDischargeDepth:=8) -implicitDefEqProofs [g22_tf,spec_DecodeSuper,g22_E,bslV_lit (α:=Int) (zs:=[(.int .i64 0)])] <;> (try simp only [map_to_bind,some_elim,g22_O])
def g22_r:Rule:=RlO g22_E (fun a=>spec_DecodeSuper a) g22_O
theorem g22_ok:RuleOk Try.prog 9 g22_r:=ok_rlo (S:=g22_S) (tf:=g22_tf) (SysOk.on ⟨g29_ok,g28_ok,g34_ok,trivial⟩ trivial) (trE_ok (ks:=[[0,2,4,5,6]]) Try.func9 (by kernel_rfl)) fun a=>g22_run a
@[simp] theorem g22_app (y0):g22_r [(.str y0)] = (spec_DecodeSuper y0).map g22_O :=
  RlO_app (enc:=g22_E) (by intro a b h; simp [g22_E,Prod.ext_iff] at h ⊢; simp [h]) y0
/-! spec.l10Slot -/
def g50_tf:TFn:=⟨(sq [oo 4 (.alloc [(.int .i64 0),(.int .i64 0),(.int .i64 0),(.int .i64 0)]),mk 5 (kb false)] [0,1,4] (sq [mo 9 0,mo 10 1,ca 11 56 [.t 9,.t 10],ca 12 9 [.t 11],mo 8 12,oo 13 (.ext (.t 8) 0),oo 14 (.ext (.t 8) 1),oo 6 (.alloc [(.int .i64 0),(.int .i64 0),(.int .i64 0),(.int .i64 0)]),⟨none,none,(.store 4 (.t 6) (.t 13))⟩,mo 7 14] [0,1,4,6,7] (.seq (.seq (.draw [([],mo 15 7),([0],nt 16 15),([0,1],mo 17 16),([0,1,2],⟨(some 18),(some (17,false)),(.faddr 0 (.t 6))⟩),([0,1,2,3],⟨(some 19),(some (17,false)),(.load none (.t 18))⟩),([0,1,2],⟨(some 20),(some (17,false)),(.mv (.t 0))⟩),([0,1,2,5],⟨(some 21),(some (17,false)),(.nilchk (.t 20))⟩),([0,1,2,5,6],⟨(some 22),(some (17,false)),(.faddr 0 (.t 21))⟩),([0,1,2,5,6,7],⟨(some 23),(some (17,false)),(.load none (.t 22))⟩),([0,1,2,5,6,7,8],⟨(some 24),(some (17,false)),(.len false (.t 23))⟩),([0,1,2,3,4,5,6,7,8,9],⟨(some 25),(some (17,false)),(.bin .num .neq (.t 19) (.t 24))⟩),([0,1,2,3,4,5,6,7,8,9,10],pk 26 (.t 17) (kb true) (.t 25)),([0,1,2,3,4,5,6,7,8,9,10,11],mo 27 26),([0,1,2,3,4,5,6,7,8,9,10,11,12],⟨(some 28),(some (27,false)),(.faddr 3 (.t 6))⟩),([0,1,2,3,4,5,6,7,8,9,10,11,12,13],⟨(some 29),(some (27,false)),(.load none (.t 28))⟩),([0,1,2,3,4,5,6,7,8,9,10,11,12,13,14],⟨(some 30),(some (27,false)),(.bin .num .rem (.t 29) (ki 2))⟩),([0,1,2,3,4,5,6,7,8,9,10,11,12],⟨(some 31),(some (27,false)),(.mv (.t 1))⟩)] [⟨(some 32),(some (27,false)),(.bin .num .neq (.t 30) (.t 31))⟩,pk 33 (.t 27) (kb true) (.t 32)]) (.trim [4,6,33] (.cond (.t 33) (.seq (.ops [oo 34 (.build [(.int .i64 0),(.int .i64 0),(.int .i64 0),(.int .i64 0)] []),⟨none,none,(.store 4 (.t 4) (.t 34))⟩,mk 5 (kb false)]) (.keep (kp [(4,0),(5,0)] [(0,0)] 0) .ret)) .skip))) (.trim [4,6] (.seq (.ops [ln 35 4 6,⟨none,none,(.store 4 (.t 4) (.t 35))⟩,mk 5 (kb true)]) (.keep (kp [(4,0),(5,0)] [(0,0)] 0) .ret)))))),[.cell 4 (some 4),.t 5]⟩
abbrev g50_S:=Sys.on [(56,g49_r),(9,g22_r)] []
def spec_l10Slot (a_d:K0) (a_k:Int):Option ((Int × Int × Int × Int) × Bool):=(spec_l09Read a_d a_k).bind fun r1=>(spec_DecodeSuper r1).bind fun r2=>if ¬(r2.2 = true) then some ((0,0,0,0),false) else if ¬(r2.1.1 = (a_d.1.length:Int)) then some ((0,0,0,0),false) else if ¬((Int.tmod r2.1.2.2.2 2) = a_k) then some ((0,0,0,0),false) else some (r2.1,true)
@[simp] def g50_O:((Int × Int × Int × Int) × Bool) → TV × List Blk:=fun r=>((.tup [(.agg [(.int .i64 r.1.1),(.int .i64 r.1.2.1),(.int .i64 r.1.2.2.1),(.int .i64 r.1.2.2.2)]),(.bool r.2)]),[(.live 4 [[(.int .i64 r.1.1),(.int .i64 r.1.2.1),(.int .i64 r.1.2.2.1),(.int .i64 r.1.2.2.2)]])])
def g50_E (a:K0 × Int × List TV):List TV:=[(.vp ((.vs (rows a.1.1))::(.vs (rows a.1.2.1))::(.int .i64 a.1.2.2.1)::(.bool a.1.2.2.2)::a.2.2)),(.int .i64 a.2.1)]
theorem g50_run (a_d:K0) (a_k:Int) (q0:List TV):callFn (X g50_S) g50_tf (g50_E (a_d,a_k,q0)) [] = (spec_l10Slot a_d a_k).map g50_O:=by
  rw [callFn_eq]
  simp (maxSteps:=2000000) (maxDischargeDepth:=8) -implicitDefEqProofs [g50_tf,spec_l10Slot,g50_E] <;> (try simp only [map_to_bind,some_elim,g50_O])
def g50_r:Rule:=RlO g50_E (fun a=>spec_l10Slot a.1 a.2.1) g50_O
theorem g50_ok:RuleOk Try.prog 36 g50_r:=ok_rlo (S:=g50_S) (tf:=g50_tf) (SysOk.on ⟨g49_ok,g22_ok,trivial⟩ trivial) (trE_ok (ks:=[[17]]) Try.func36 (by kernel_rfl)) fun a=>g50_run a.1 a.2.1 a.2.2
@[simp] theorem g50_app (y0 y1 y2 y3 y4)(q0:List TV):g50_r [(.vp ((.vs (rows y0))::(.vs (rows y1))::(.int .i64 y2)::(.bool y3)::q0)),(.int .i64 y4)] = (spec_l10Slot ((y0,y1,y2,y3)) y4).map g50_O :=
  RlO_app (enc:=g50_E) (by intro a b h; simp [g50_E,Prod.ext_iff] at h ⊢; simp [h]) ((y0,y1,y2,y3),y4,q0)
/-! spec.l10Choose -/
def g36p1_c:TC:=(sq [mo 33 7,mo 32 33] [2,6,32] (.cond (.t 32) (.seq (.ops [ln 34 4 6,⟨none,none,(.store 4 (.t 2) (.t 34))⟩,mk 3 (ki 0)]) (.keep (kp [(2,0),(3,0)] [(0,0)] 0) .ret)) (.keep (kp [(2,0)] [(0,0)] 0) .skip)))
def g36_tf:TFn:=⟨(sq [oo 2 (.alloc [(.int .i64 0),(.int .i64 0),(.int .i64 0),(.int .i64 0)]),mk 3 (ki 0)] [0,2] (sq [mo 9 0,ca 10 36 [.t 9,ki 0],mo 8 10,oo 11 (.ext (.t 8) 0),oo 12 (.ext (.t 8) 1),oo 4 (.alloc [(.int .i64 0),(.int .i64 0),(.int .i64 0),(.int .i64 0)]),⟨none,none,(.store 4 (.t 4) (.t 11))⟩,mo 5 12] [0,2,4,5] (sq [mo 14 0,ca 15 36 [.t 14,ki 1],mo 13 15,oo 16 (.ext (.t 13) 0),oo 17 (.ext (.t 13) 1),oo 6 (.alloc [(.int .i64 0),(.int .i64 0),(.int .i64 0),(.int .i64 0)]),⟨none,none,(.store 4 (.t 6) (.t 16))⟩,mo 7 17] [2,4,5,6,7] (.seq (.block 0 (sq [mo 19 5,mo 20 19,⟨(some 21),(some (20,true)),(.mv (.t 7))⟩,⟨(some 22),(some (20,true)),(.un .not (.t 21))⟩,⟨(some 23),(some (20,true)),(.mv (.t 22))⟩,⟨(some 24),(some (23,false)),(.faddr 3 (.t 4))⟩,⟨(some 25),(some (23,false)),(.load none (.t 24))⟩,⟨(some 26),(some (23,false)),(.faddr 3 (.t 6))⟩,⟨(some 27),(some (23,false)),(.load none (.t 26))⟩,⟨(some 28),(some (23,false)),(.bin .num .gtr (.t 25) (.t 27))⟩,⟨(some 29),(some (20,true)),(.pick (.t 23) (kb true) (.t 28))⟩,pk 30 (.t 20) (.t 29) (kb false),mo 18 30] [2,4,6,7,18] (.cond (.t 18) (.seq (.ops [ln 31 4 4,⟨none,none,(.store 4 (.t 2) (.t 31))⟩,mk 3 (ki 0)]) (.keep (kp [(2,0),(3,0)] [(0,0)] 0) .ret)) (.keep (kp [(2,0),(6,0),(7,0)] [(0,0),(4,0)] 0) g36p1_c)))) (.trim [2] (.seq (.ops [oo 35 (.build [(.int .i64 0),(.int .i64 0),(.int .i64 0),(.int .i64 0)] []),⟨none,none,(.store 4 (.t 2) (.t 35))⟩,mk 3 (ki 10)]) (.keep (kp [(2,0),(3,0)] [(0,0)] 0) .ret))))))),[.cell 2 (some 4),.t 3]⟩
abbrev g36_S:=Sys.on [(36,g50_r)] []
@[reducible,simp] def g36p1_F:(((Int × Int × Int × Int) × Int) ⊕ ((Int × Int × Int × Int))) → Out:=(Sum.elim (fun t=>(.ret,[(2,(.ptr 0 0 0)),(3,(.int .i64 t.2))],[(.live 4 [[(.int .i64 t.1.1),(.int .i64 t.1.2.1),(.int .i64 t.1.2.2.1),(.int .i64 t.1.2.2.2)]])])) (fun t=>(.nrm,[(2,(.ptr 0 0 0))],[(.live 4 [[(.int .i64 t.1),(.int .i64 t.2.1),(.int .i64 t.2.2.1),(.int .i64 t.2.2.2)]])])))
def spec_l10Choose_p1 (v3:Int × Int × Int × Int) (v4:Int × Int × Int × Int) (v5:Bool):Option (((Int × Int × Int × Int) × Int) ⊕ ((Int × Int × Int × Int))):=if v5 = true then some ((.inl (v4,0))) else some ((.inr v3))
@[simp] theorem g36p1_eq (y0 y1 y2 y3 y4 y5 y6 y7 y8):X g36_S g36p1_c [(2,(.ptr 0 0 0)),(6,(.ptr 1 0 0)),(7,(.bool y8))] [(.live 4 [[(.int .i64 y0),(.int .i64 y1),(.int .i64 y2),(.int .i64 y3)]]),(.live 4 [[(.int .i64 y4),(.int .i64 y5),(.int .i64 y6),(.int .i64 y7)]])] = (spec_l10Choose_p1 ((y0,y1,y2,y3)) ((y4,y5,y6,y7)) y8).map g36p1_F:=by
  simp (maxSteps:=2000000) (maxDischargeDepth:=8) -implicitDefEqProofs [g36p1_c,spec_l10Choose_p1] <;> (try simp only [map_to_bind,some_elim,g36p1_F])
def spec_l10Choose (a_d:K0):Option ((Int × Int × Int × Int) × Int):=(spec_l10Slot a_d 0).bind fun r1=>(spec_l10Slot a_d 1).bind fun r2=>if r1.2 = true then if ¬(r2.2 = true) then some (r1.1,0) else if r1.1.2.2.2 > r2.1.2.2.2 then some (r1.1,0) else (spec_l10Choose_p1 ((0,0,0,0)) r2.1 r2.2).bind fun r6=>Sum.elim (fun u7=>some (u7.1,u7.2)) (fun u8=>some ((0,0,0,0),10)) r6 else (spec_l10Choose_p1 ((0,0,0,0)) r2.1 r2.2).bind fun r9=>Sum.elim (fun u10=>some (u10.1,u10.2)) (fun u11=>some ((0,0,0,0),10)) r9
@[simp] def g36_O:((Int × Int × Int × Int) × Int) → TV × List Blk:=fun r=>((.tup [(.agg [(.int .i64 r.1.1),(.int .i64 r.1.2.1),(.int .i64 r.1.2.2.1),(.int .i64 r.1.2.2.2)]),(.int .i64 r.2)]),[(.live 4 [[(.int .i64 r.1.1),(.int .i64 r.1.2.1),(.int .i64 r.1.2.2.1),(.int .i64 r.1.2.2.2)]])])
def g36_E (a:K0 × List TV):List TV:=[(.vp ((.vs (rows a.1.1))::(.vs (rows a.1.2.1))::(.int .i64 a.1.2.2.1)::(.bool a.1.2.2.2)::a.2))]
theorem g36_run (a_d:K0) (q0:List TV):callFn (X g36_S) g36_tf (g36_E (a_d,q0)) [] = (spec_l10Choose a_d).map g36_O:=by
  rw [callFn_eq]
  simp (maxSteps:=2000000) (maxDischargeDepth:=8) -implicitDefEqProofs [g36_tf,spec_l10Choose,g36_E] <;> (try simp only [map_to_bind,some_elim,g36_O])
def g36_r:Rule:=RlO g36_E (fun a=>spec_l10Choose a.1) g36_O
theorem g36_ok:RuleOk Try.prog 16 g36_r:=ok_rlo (S:=g36_S) (tf:=g36_tf) (SysOk.on ⟨g50_ok,trivial⟩ trivial) (trE_ok (ks:=[]) Try.func16 (by kernel_rfl)) fun a=>g36_run a.1 a.2
@[simp] theorem g36_app (y0 y1 y2 y3)(q0:List TV):g36_r [(.vp ((.vs (rows y0))::(.vs (rows y1))::(.int .i64 y2)::(.bool y3)::q0))] = (spec_l10Choose ((y0,y1,y2,y3))).map g36_O :=
  RlO_app (enc:=g36_E) (by intro a b h; simp [g36_E,Prod.ext_iff] at h ⊢; simp [h]) ((y0,y1,y2,y3),q0)
/-! spec.ChooseSuper -/
def g23_tf:TFn:=⟨(sq [bx 1 0,oo 2 (.alloc [(.int .i64 0),(.int .i64 0),(.int .i64 0),(.int .i64 0)]),mk 3 (ki 0)] [1,2] (.seq (sq [ca 4 15 [.t 1],nt 5 4] [1,2,5] (.cond (.t 5) (.seq (.ops [oo 6 (.build [(.int .i64 0),(.int .i64 0),(.int .i64 0),(.int .i64 0)] []),⟨none,none,(.store 4 (.t 2) (.t 6))⟩,mk 3 (ki 1)]) (.keep (kp [(2,0),(3,0)] [(1,0)] 0) .ret)) .skip)) (.trim [1,2] (.seq (.ops [ca 7 16 [.t 1],oo 8 (.ext (.t 7) 0),oo 9 (.ext (.t 7) 1),⟨none,none,(.store 4 (.t 2) (.t 8))⟩,mo 3 9]) (.keep (kp [(2,0),(3,0)] [(1,0)] 0) .ret))))),[.cell 2 (some 4),.t 3]⟩
abbrev g23_S:=Sys.on [(15,g62_r),(16,g36_r)] []
def spec_ChooseSuper (a_d:K0):Option ((Int × Int × Int × Int) × Int):=(spec_l09Ok a_d).bind fun r1=>if ¬(r1 = true) then some ((0,0,0,0),1) else (spec_l10Choose a_d).bind fun r2=>some (r2.1,r2.2)
@[simp] def g23_O:((Int × Int × Int × Int) × Int) → TV × List Blk:=fun r=>((.tup [(.agg [(.int .i64 r.1.1),(.int .i64 r.1.2.1),(.int .i64 r.1.2.2.1),(.int .i64 r.1.2.2.2)]),(.int .i64 r.2)]),[(.live 4 [[(.int .i64 r.1.1),(.int .i64 r.1.2.1),(.int .i64 r.1.2.2.1),(.int .i64 r.1.2.2.2)]])])
def g23_E (a:K0):List TV:=[(.agg [(.vs (rows a.1)),(.vs (rows a.2.1)),(.int .i64 a.2.2.1),(.bool a.2.2.2)])]
theorem g23_run (a_d:K0) :callFn (X g23_S) g23_tf (g23_E a_d) [] = (spec_ChooseSuper a_d).map g23_O:=by
  rw [callFn_eq]
  simp (maxSteps:=2000000) (maxDischargeDepth:=8) -implicitDefEqProofs [g23_tf,spec_ChooseSuper,g23_E] <;> (try simp only [map_to_bind,some_elim,g23_O])
def g23_r:Rule:=RlO g23_E (fun a=>spec_ChooseSuper a) g23_O
theorem g23_ok:RuleOk Try.prog 6 g23_r:=ok_rlo (S:=g23_S) (tf:=g23_tf) (SysOk.on ⟨g62_ok,g36_ok,trivial⟩ trivial) (trE_ok (ks:=[]) Try.func6 (by kernel_rfl)) fun a=>g23_run a
@[simp] theorem g23_app (y0 y1 y2 y3):g23_r [(.agg [(.vs (rows y0)),(.vs (rows y1)),(.int .i64 y2),(.bool y3)])] = (spec_ChooseSuper ((y0,y1,y2,y3))).map g23_O :=
  RlO_app (enc:=g23_E) (by intro a b h; simp [g23_E,Prod.ext_iff] at h ⊢; simp [h]) ((y0,y1,y2,y3))
/-! impl.within -/
def g58_tf:TFn:=⟨(sq [mk 6 (kb false)] [0,1,2] (.seq (.after (.ops [mo 7 0,mo 8 1,bn 9 .geq (.t 7) (.t 8),mo 10 9,⟨(some 11),(some (10,true)),(.mv (.t 0))⟩,⟨(some 12),(some (10,true)),(.mv (.t 2))⟩,⟨(some 13),(some (10,true)),(.bin .num .leq (.t 11) (.t 12))⟩,pk 14 (.t 10) (.t 13) (kb false),mo 6 14]) (kp [(6,0)] [] 0)) (.keep (kp [(6,0)] [] 0) .ret))),[.t 6]⟩
abbrev g58_S:=Sys.on [] []
def impl_within (a_n:Int) (a_low:Int) (a_high:Int):Option (Bool):=if a_n ≥ a_low then some ((decide (a_n ≤ a_high))) else some false
@[simp] def g58_O:Bool → TV × List Blk:=fun r=>((.bool r),[])
def g58_E (a:Int × Int × Int):List TV:=[(.int .i64 a.1),(.int .i64 a.2.1),(.int .i64 a.2.2)]
theorem g58_run (a_n:Int) (a_low:Int) (a_high:Int) :callFn (X g58_S) g58_tf (g58_E (a_n,a_low,a_high)) [] = (impl_within a_n a_low a_high).map g58_O:=by
  rw [callFn_eq]
  simp (maxSteps:=2000000) (maxDischargeDepth:=8) -implicitDefEqProofs [g58_tf,impl_within,g58_E] <;> (try simp only [map_to_bind,some_elim,g58_O])
def g58_r:Rule:=RlO g58_E (fun a=>impl_within a.1 a.2.1 a.2.2) g58_O
theorem g58_ok:RuleOk Try.prog 37 g58_r:=ok_rlo (S:=g58_S) (tf:=g58_tf) (SysOk.on trivial trivial) (trE_ok (ks:=[]) Try.func37 (by kernel_rfl)) fun a=>g58_run a.1 a.2.1 a.2.2
@[simp] theorem g58_app (y0 y1 y2):g58_r [(.int .i64 y0),(.int .i64 y1),(.int .i64 y2)] = (impl_within y0 y1 y2).map g58_O :=
  RlO_app (enc:=g58_E) (by intro a b h; simp [g58_E,Prod.ext_iff] at h ⊢; simp [h]) (y0,y1,y2)
/-! impl.isBlock -/
def g51_tf:TFn:=⟨(sq [mk 2 (kb false)] [0] (.seq (.ops [mo 3 0,oo 4 (.len true (.t 3)),bn 5 .eql (.t 4) (ki 64),mo 2 5]) (.keep (kp [(2,0)] [] 0) .ret))),[.t 2]⟩
abbrev g51_S:=Sys.on [] []
def impl_isBlock (a_s:Str):Option (Bool):=some ((decide ((a_s.length:Int) = 64)))
@[simp] def g51_O:Bool → TV × List Blk:=fun r=>((.bool r),[])
def g51_E (a:Str):List TV:=[(.str a)]
theorem g51_run (a_s:Str) :callFn (X g51_S) g51_tf (g51_E a_s) [] = (impl_isBlock a_s).map g51_O:=by
  rw [callFn_eq]
  simp (maxSteps:=2000000) (maxDischargeDepth:=8) -implicitDefEqProofs [g51_tf,impl_isBlock,g51_E] <;> (try simp only [map_to_bind,some_elim,g51_O])
def g51_r:Rule:=RlO g51_E (fun a=>impl_isBlock a) g51_O
theorem g51_ok:RuleOk Try.prog 40 g51_r:=ok_rlo (S:=g51_S) (tf:=g51_tf) (SysOk.on trivial trivial) (trE_ok (ks:=[]) Try.func40 (by kernel_rfl)) fun a=>g51_run a
@[simp] theorem g51_app (y0):g51_r [(.str y0)] = (impl_isBlock y0).map g51_O :=
  RlO_app (enc:=g51_E) (by intro a b h; simp [g51_E,Prod.ext_iff] at h ⊢; simp [h]) y0
/-! impl.ValidDisk.1 -/
def g18_tf:TFn:=⟨(sq [mk 2 (kb false)] [0] (.seq (.ops [mo 3 0,ca 4 40 [.t 3],nt 5 4,mo 2 5]) (.keep (kp [(2,0)] [] 0) .ret))),[.t 2]⟩
abbrev g18_S:=Sys.on [(40,g51_r)] []
def impl_ValidDisk_c1 (a_b:Str):Option (Bool):=(impl_isBlock a_b).bind fun r1=>some ((!r1))
@[simp] def g18_O:Bool → TV × List Blk:=fun r=>((.bool r),[])
def g18_E (a:Str):List TV:=[(.str a)]
theorem g18_run (a_b:Str) :callFn (X g18_S) g18_tf (g18_E a_b) [] = (impl_ValidDisk_c1 a_b).map g18_O:=by
  rw [callFn_eq]
  simp (maxSteps:=2000000) (maxDischargeDepth:=8) -implicitDefEqProofs [g18_tf,impl_ValidDisk_c1,g18_E] <;> (try simp only [map_to_bind,some_elim,g18_O])
def g18_r:Rule:=RlO g18_E (fun a=>impl_ValidDisk_c1 a) g18_O
theorem g18_ok:RuleOk Try.prog 39 g18_r:=ok_rlo (S:=g18_S) (tf:=g18_tf) (SysOk.on ⟨g51_ok,trivial⟩ trivial) (trE_ok (ks:=[]) Try.func39 (by kernel_rfl)) fun a=>g18_run a
@[simp] theorem g18_app (y0):g18_r [(.str y0)] = (impl_ValidDisk_c1 y0).map g18_O :=
  RlO_app (enc:=g18_E) (by intro a b h; simp [g18_E,Prod.ext_iff] at h ⊢; simp [h]) y0
/-! slices.IndexFunc[[]string,string] -/
def g3l1_cb:TC:=(sq [bn 9 .lss (.t 8) (.t 7)] [0,1,7,8,9] (.seq (.cond (.t 9) .skip (.keep (kp [] [] 0) (.exit 0))) (.trim [0,1,7,8] (.seq (.block 1 (sq [mo 10 8,mo 5 10] [0,1,5,7,8] (sq [mo 11 1,mo 12 0,mo 13 5,ia 14 1 12 13,ld 15 14,oo 16 (.callv (.t 11) [.t 15])] [0,1,5,7,8,16] (.cond (.t 16) (.seq (.ops [mo 17 5,mo 4 17]) (.keep (kp [(4,0)] [] 0) .ret)) .skip)))) (.trim [0,1,7,8] (.after (.ops [bn 18 .add (.t 8) (ki 1),mo 8 18]) (kp [(0,0),(1,0),(7,0),(8,0)] [] 0)))))))
def g3l1_c:TC:=.loop [0,1,7,8] g3l1_cb
def g3_tf:TFn:=⟨(sq [mk 4 (ki 0)] [0,1] (.seq (sq [mo 6 0,le 7 6,mk 8 (ki 0)] [0,1,7,8] (.block 0 (.keep (kp [(0,0),(1,0),(7,0),(8,0)] [] 0) g3l1_c))) (.trim [] (.seq (.ops [mk 4 (ki (-1))]) (.keep (kp [(4,0)] [] 0) .ret))))),[.t 4]⟩
abbrev g3_S:=Sys.on [(39,g18_r)] []
@[reducible,simp] def g3l1_F:((Unit) ⊕ (Int)) → Out:=(Sum.elim (fun t=>(.ext 0,[],[])) (fun t=>(.ret,[(4,(.int .i64 t))],[])))
def slices_IndexFunc_string_string__ValidDisk_c1_l1_b (v1:List Str) (v2:Int) (v3:Int):Option ((Int) ⊕ ((Unit) ⊕ (Int))):=if v3 < v2 then if 0 ≤ v3 then (v1[(v3).toNat]?).bind fun x4=>(impl_ValidDisk_c1 x4).bind fun r5=>if r5 = true then some (.inr (.inr v3)) else some (.inl ((IntKind.i64.wrap (v3 + 1)))) else none else some (.inr (.inl ()))
theorem g3l1_b_eq  (v1:List Str) (v2:Int) (v3:Int):X g3_S g3l1_cb (keepEnv [0,1,7,8] [(0,(.vs (rows v1))),(1,(.fn 39 [] [])),(7,(.int .i64 v2)),(8,(.int .i64 v3))]) [] = (slices_IndexFunc_string_string__ValidDisk_c1_l1_b v1 v2 v3).map (Sum.elim (fun s=>(TX.nrm,[(0,(.vs (rows v1))),(1,(.fn 39 [] [])),(7,(.int .i64 v2)),(8,(.int .i64 s))],[])) g3l1_F):=by
  simp (maxSteps:=2000000) (maxDischargeDepth:=8) -implicitDefEqProofs [g3l1_cb,slices_IndexFunc_string_string__ValidDisk_c1_l1_b] <;> (try simp only [map_to_bind,some_elim,g3l1_F])
def slices_IndexFunc_string_string__ValidDisk_c1_l1 (v1:List Str) (v2:Int) (s:Int):Option ((Unit) ⊕ (Int)):=loopO (fun s=>slices_IndexFunc_string_string__ValidDisk_c1_l1_b v1 v2 s) s
@[simp] theorem g3l1_eq (y0 y1 y2):X g3_S g3l1_c [(0,(.vs (rows y0))),(1,(.fn 39 [] [])),(7,(.int .i64 y1)),(8,(.int .i64 y2))] [] = (slices_IndexFunc_string_string__ValidDisk_c1_l1 y0 y1 y2).map g3l1_F:=by
  exact loop_X _ _ _ _ (by intro r; first | (simp; done) | (rcases r with r | r <;> simp; done) | (rcases r with r | r | r <;> simp; done) | (rcases r with r | r | r | r <;> simp)) (fun s=>g3l1_b_eq  y0 y1 s) y2
def slices_IndexFunc_string_string__ValidDisk_c1 (a_s:List Str):Option (Int):=(slices_IndexFunc_string_string__ValidDisk_c1_l1 a_s ((a_s.length:Int)) 0).bind fun r6=>Sum.elim (fun u7=>some ((-1))) (fun u8=>some u8) r6
@[simp] def g3_O:Int → TV × List Blk:=fun r=>((.int .i64 r),[])
def g3_E (a:List Str):List TV:=[(.vs (rows a)),(.fn 39 [] [])]
theorem g3_run (a_s:List Str) :callFn (X g3_S) g3_tf (g3_E a_s) [] = (slices_IndexFunc_string_string__ValidDisk_c1 a_s).map g3_O:=by
  rw [callFn_eq]
  simp (maxSteps:=2000000) (maxDischargeDepth:=8) -implicitDefEqProofs [g3_tf,slices_IndexFunc_string_string__ValidDisk_c1,g3_E] <;> (try simp only [map_to_bind,some_elim,g3_O])
def g3_r:Rule:=RlO g3_E (fun a=>slices_IndexFunc_string_string__ValidDisk_c1 a) g3_O
theorem g3_ok:RuleOk Try.prog 57 g3_r:=ok_rlo (S:=g3_S) (tf:=g3_tf) (SysOk.on ⟨g18_ok,trivial⟩ trivial) (trE_ok (ks:=[[0,1,7,8]]) Try.func57 (by kernel_rfl)) fun a=>g3_run a
@[simp] theorem g3_app (y0):g3_r [(.vs (rows y0)),(.fn 39 [] [])] = (slices_IndexFunc_string_string__ValidDisk_c1 y0).map g3_O :=
  RlO_app (enc:=g3_E) (by intro a b h; simp [g3_E,Prod.ext_iff] at h ⊢; simp [h]) y0
/-! slices.ContainsFunc[[]string,string] -/
def g2_tf:TFn:=⟨(sq [mk 4 (kb false)] [0,1] (.seq (.ops [mo 5 0,mo 6 1,ca 7 57 [.t 5,.t 6],bn 8 .geq (.t 7) (ki 0),mo 4 8]) (.keep (kp [(4,0)] [] 0) .ret))),[.t 4]⟩
abbrev g2_S:=Sys.on [(57,g3_r)] []
def slices_ContainsFunc_string_string__ValidDisk_c1 (a_s:List Str):Option (Bool):=(slices_IndexFunc_string_string__ValidDisk_c1 a_s).bind fun r1=>some ((decide (r1 ≥ 0)))
@[simp] def g2_O:Bool → TV × List Blk:=fun r=>((.bool r),[])
def g2_E (a:List Str):List TV:=[(.vs (rows a)),(.fn 39 [] [])]
theorem g2_run (a_s:List Str) :callFn (X g2_S) g2_tf (g2_E a_s) [] = (slices_ContainsFunc_string_string__ValidDisk_c1 a_s).map g2_O:=by
  rw [callFn_eq]
  simp (maxSteps:=2000000) (maxDischargeDepth:=8) -implicitDefEqProofs [g2_tf,slices_ContainsFunc_string_string__ValidDisk_c1,g2_E] <;> (try simp only [map_to_bind,some_elim,g2_O])
def g2_r:Rule:=RlO g2_E (fun a=>slices_ContainsFunc_string_string__ValidDisk_c1 a) g2_O
theorem g2_ok:RuleOk Try.prog 38 g2_r:=ok_rlo (S:=g2_S) (tf:=g2_tf) (SysOk.on ⟨g3_ok,trivial⟩ trivial) (trE_ok (ks:=[]) Try.func38 (by kernel_rfl)) fun a=>g2_run a
@[simp] theorem g2_app (y0):g2_r [(.vs (rows y0)),(.fn 39 [] [])] = (slices_ContainsFunc_string_string__ValidDisk_c1 y0).map g2_O :=
  RlO_app (enc:=g2_E) (by intro a b h; simp [g2_E,Prod.ext_iff] at h ⊢; simp [h]) y0
/-! impl.isIndex -/
def g52_tf:TFn:=⟨(sq [mk 4 (kb false)] [0,1] (.seq (.ops [mo 5 0,mo 6 1,bn 7 .sub (.t 6) (ki 1),ca 8 37 [.t 5,ki 0,.t 7],mo 4 8]) (.keep (kp [(4,0)] [] 0) .ret))),[.t 4]⟩
abbrev g52_S:=Sys.on [(37,g58_r)] []
def impl_isIndex (a_i:Int) (a_many:Int):Option (Bool):=(impl_within a_i 0 ((IntKind.i64.wrap (a_many - 1)))).bind fun r1=>some r1
@[simp] def g52_O:Bool → TV × List Blk:=fun r=>((.bool r),[])
def g52_E (a:Int × Int):List TV:=[(.int .i64 a.1),(.int .i64 a.2)]
theorem g52_run (a_i:Int) (a_many:Int) :callFn (X g52_S) g52_tf (g52_E (a_i,a_many)) [] = (impl_isIndex a_i a_many).map g52_O:=by
  rw [callFn_eq]
  simp (maxSteps:=2000000) (maxDischargeDepth:=8) -implicitDefEqProofs [g52_tf,impl_isIndex,g52_E] <;> (try simp only [map_to_bind,some_elim,g52_O])
def g52_r:Rule:=RlO g52_E (fun a=>impl_isIndex a.1 a.2) g52_O
theorem g52_ok:RuleOk Try.prog 43 g52_r:=ok_rlo (S:=g52_S) (tf:=g52_tf) (SysOk.on ⟨g58_ok,trivial⟩ trivial) (trE_ok (ks:=[]) Try.func43 (by kernel_rfl)) fun a=>g52_run a.1 a.2
@[simp] theorem g52_app (y0 y1):g52_r [(.int .i64 y0),(.int .i64 y1)] = (impl_isIndex y0 y1).map g52_O :=
  RlO_app (enc:=g52_E) (by intro a b h; simp [g52_E,Prod.ext_iff] at h ⊢; simp [h]) (y0,y1)
/-! impl.ValidDisk.2 -/
def g19_tf:TFn:=⟨(sq [bx 2 0,mk 3 (kb false)] [1,2] (.seq (.after (.ops [fa 4 0 2,ld 5 4,fa 6 0 1,ld 7 6,le 8 7,ca 9 43 [.t 5,.t 8],nt 10 9,mo 11 10,⟨(some 12),(some (11,false)),(.faddr 1 (.t 2))⟩,⟨(some 13),(some (11,false)),(.load none (.t 12))⟩,⟨(some 14),(some (11,false)),(.call 40 [.t 13])⟩,⟨(some 15),(some (11,false)),(.un .not (.t 14))⟩,pk 16 (.t 11) (kb true) (.t 15),mo 3 16]) (kp [(3,0)] [] 0)) (.keep (kp [(3,0)] [] 0) .ret))),[.t 3]⟩
abbrev g19_S:=Sys.on [(43,g52_r),(40,g51_r)] []
def impl_ValidDisk_c2 (a_p:Int × Str) (a_p':List Str) (a_p'':List (Int × Str)) (a_p''':Int) (a_p'''':Bool):Option (Bool):=(impl_isIndex a_p.1 ((a_p'.length:Int))).bind fun r1=>if ¬(r1 = true) then some true else (impl_isBlock a_p.2).bind fun r2=>some ((!r2))
@[simp] def g19_O:Bool → TV × List Blk:=fun r=>((.bool r),[])
def g19_E (a:(Int × Str) × List Str × (List (Int × Str)) × Int × Bool):List TV:=[(.agg [(.int .i64 a.1.1),(.str a.1.2)]),(.vp [(.vs (rows a.2.1)),(.vs (rows a.2.2.1)),(.int .i64 a.2.2.2.1),(.bool a.2.2.2.2)])]
theorem g19_run (a_p:Int × Str) (a_p':List Str) (a_p'':List (Int × Str)) (a_p''':Int) (a_p'''':Bool) :callFn (X g19_S) g19_tf (g19_E (a_p,a_p',a_p'',a_p''',a_p'''')) [] = (impl_ValidDisk_c2 a_p a_p' a_p'' a_p''' a_p'''').map g19_O:=by
  rw [callFn_eq]
  simp (maxSteps:=2000000) (maxDischargeDepth:=8) -implicitDefEqProofs [g19_tf,impl_ValidDisk_c2,g19_E] <;> (try simp only [map_to_bind,some_elim,g19_O])
def g19_r:Rule:=RlO g19_E (fun a=>impl_ValidDisk_c2 a.1 a.2.1 a.2.2.1 a.2.2.2.1 a.2.2.2.2) g19_O
theorem g19_ok:RuleOk Try.prog 42 g19_r:=ok_rlo (S:=g19_S) (tf:=g19_tf) (SysOk.on ⟨g52_ok,g51_ok,trivial⟩ trivial) (trE_ok (ks:=[]) Try.func42 (by kernel_rfl)) fun a=>g19_run a.1 a.2.1 a.2.2.1 a.2.2.2.1 a.2.2.2.2
@[simp] theorem g19_app (y0 y1 y2 y3 y4 y5):g19_r [(.agg [(.int .i64 y0),(.str y1)]),(.vp [(.vs (rows y2)),(.vs (rows y3)),(.int .i64 y4),(.bool y5)])] = (impl_ValidDisk_c2 ((y0,y1)) y2 y3 y4 y5).map g19_O :=
  RlO_app (enc:=g19_E) (by intro a b h; simp [g19_E,Prod.ext_iff] at h ⊢; simp [h]) ((y0,y1),y2,y3,y4,y5)
/-! slices.IndexFunc[[]impl.Put,impl.Put] -/
def g1l1_cb:TC:=(sq [bn 9 .lss (.t 8) (.t 7)] [0,1,7,8,9] (.seq (.cond (.t 9) .skip (.keep (kp [] [] 0) (.exit 0))) (.trim [0,1,7,8] (.seq (.block 1 (sq [mo 10 8,mo 5 10] [0,1,5,7,8] (sq [mo 11 1,mo 12 0,mo 13 5,ia 14 2 12 13,ln 15 2 14,oo 16 (.callv (.t 11) [.t 15])] [0,1,5,7,8,16] (.cond (.t 16) (.seq (.ops [mo 17 5,mo 4 17]) (.keep (kp [(4,0)] [] 0) .ret)) .skip)))) (.trim [0,1,7,8] (.after (.ops [bn 18 .add (.t 8) (ki 1),mo 8 18]) (kp [(0,0),(1,0),(7,0),(8,0)] [] 0)))))))
def g1l1_c:TC:=.loop [0,1,7,8] g1l1_cb
def g1_tf:TFn:=⟨(sq [mk 4 (ki 0)] [0,1] (.seq (sq [mo 6 0,le 7 6,mk 8 (ki 0)] [0,1,7,8] (.block 0 (.keep (kp [(0,0),(1,0),(7,0),(8,0)] [] 0) g1l1_c))) (.trim [] (.seq (.ops [mk 4 (ki (-1))]) (.keep (kp [(4,0)] [] 0) .ret))))),[.t 4]⟩
abbrev g1_S:=Sys.on [(42,g19_r)] []
@[reducible,simp] def g1l1_F:((Unit) ⊕ (Int)) → Out:=(Sum.elim (fun t=>(.ext 0,[],[])) (fun t=>(.ret,[(4,(.int .i64 t))],[])))
def slices_IndexFunc_impl_Put_impl_Put__ValidDisk_c2_l1_b (v1:List (Int × Str)) (v2:List Str) (v3:List (Int × Str)) (v4:Int) (v5:Bool) (v6:Int) (v7:Int):Option ((Int) ⊕ ((Unit) ⊕ (Int))):=if v7 < v6 then if 0 ≤ v7 then (v1[(v7).toNat]?).bind fun x8=>(impl_ValidDisk_c2 x8 v2 v3 v4 v5).bind fun r9=>if r9 = true then some (.inr (.inr v7)) else some (.inl ((IntKind.i64.wrap (v7 + 1)))) else none else some (.inr (.inl ()))
theorem g1l1_b_eq  (v1:List (Int × Str)) (v2:List Str) (v3:List (Int × Str)) (v4:Int) (v5:Bool) (v6:Int) (v7:Int):X g1_S g1l1_cb (keepEnv [0,1,7,8] [(0,(.vs (rows v1))),(1,(.fn 42 [] [(.vp [(.vs (rows v2)),(.vs (rows v3)),(.int .i64 v4),(.bool v5)])])),(7,(.int .i64 v6)),(8,(.int .i64 v7))]) [] = (slices_IndexFunc_impl_Put_impl_Put__ValidDisk_c2_l1_b v1 v2 v3 v4 v5 v6 v7).map (Sum.elim (fun s=>(TX.nrm,[(0,(.vs (rows v1))),(1,(.fn 42 [] [(.vp [(.vs (rows v2)),(.vs (rows v3)),(.int .i64 v4),(.bool v5)])])),(7,(.int .i64 v6)),(8,(.int .i64 s))],[])) g1l1_F):=by
  simp (maxSteps:=2000000) (maxDischargeDepth:=8) -implicitDefEqProofs [g1l1_cb,slices_IndexFunc_impl_Put_impl_Put__ValidDisk_c2_l1_b] <;> (try simp only [map_to_bind,some_elim,g1l1_F])
def slices_IndexFunc_impl_Put_impl_Put__ValidDisk_c2_l1 (v1:List (Int × Str)) (v2:List Str) (v3:List (Int × Str)) (v4:Int) (v5:Bool) (v6:Int) (s:Int):Option ((Unit) ⊕ (Int)):=loopO (fun s=>slices_IndexFunc_impl_Put_impl_Put__ValidDisk_c2_l1_b v1 v2 v3 v4 v5 v6 s) s
@[simp] theorem g1l1_eq (y0 y1 y2 y3 y4 y5 y6):X g1_S g1l1_c [(0,(.vs (rows y0))),(1,(.fn 42 [] [(.vp [(.vs (rows y1)),(.vs (rows y2)),(.int .i64 y3),(.bool y4)])])),(7,(.int .i64 y5)),(8,(.int .i64 y6))] [] = (slices_IndexFunc_impl_Put_impl_Put__ValidDisk_c2_l1 y0 y1 y2 y3 y4 y5 y6).map g1l1_F:=by
  exact loop_X _ _ _ _ (by intro r; first | (simp; done) | (rcases r with r | r <;> simp; done) | (rcases r with r | r | r <;> simp; done) | (rcases r with r | r | r | r <;> simp)) (fun s=>g1l1_b_eq  y0 y1 y2 y3 y4 y5 s) y6
def slices_IndexFunc_impl_Put_impl_Put__ValidDisk_c2 (a_s:List (Int × Str)) (a_f:List Str) (a_f':List (Int × Str)) (a_f'':Int) (a_f''':Bool):Option (Int):=(slices_IndexFunc_impl_Put_impl_Put__ValidDisk_c2_l1 a_s a_f a_f' a_f'' a_f''' ((a_s.length:Int)) 0).bind fun r10=>Sum.elim (fun u11=>some ((-1))) (fun u12=>some u12) r10
@[simp] def g1_O:Int → TV × List Blk:=fun r=>((.int .i64 r),[])
def g1_E (a:(List (Int × Str)) × List Str × (List (Int × Str)) × Int × Bool):List TV:=[(.vs (rows a.1)),(.fn 42 [] [(.vp [(.vs (rows a.2.1)),(.vs (rows a.2.2.1)),(.int .i64 a.2.2.2.1),(.bool a.2.2.2.2)])])]
theorem g1_run (a_s:List (Int × Str)) (a_f:List Str) (a_f':List (Int × Str)) (a_f'':Int) (a_f''':Bool) :callFn (X g1_S) g1_tf (g1_E (a_s,a_f,a_f',a_f'',a_f''')) [] = (slices_IndexFunc_impl_Put_impl_Put__ValidDisk_c2 a_s a_f a_f' a_f'' a_f''').map g1_O:=by
  rw [callFn_eq]
  simp (maxSteps:=2000000) (maxDischargeDepth:=8) -implicitDefEqProofs [g1_tf,slices_IndexFunc_impl_Put_impl_Put__ValidDisk_c2,g1_E] <;> (try simp only [map_to_bind,some_elim,g1_O])
def g1_r:Rule:=RlO g1_E (fun a=>slices_IndexFunc_impl_Put_impl_Put__ValidDisk_c2 a.1 a.2.1 a.2.2.1 a.2.2.2.1 a.2.2.2.2) g1_O
theorem g1_ok:RuleOk Try.prog 58 g1_r:=ok_rlo (S:=g1_S) (tf:=g1_tf) (SysOk.on ⟨g19_ok,trivial⟩ trivial) (trE_ok (ks:=[[0,1,7,8]]) Try.func58 (by kernel_rfl)) fun a=>g1_run a.1 a.2.1 a.2.2.1 a.2.2.2.1 a.2.2.2.2
@[simp] theorem g1_app (y0 y1 y2 y3 y4):g1_r [(.vs (rows y0)),(.fn 42 [] [(.vp [(.vs (rows y1)),(.vs (rows y2)),(.int .i64 y3),(.bool y4)])])] = (slices_IndexFunc_impl_Put_impl_Put__ValidDisk_c2 y0 y1 y2 y3 y4).map g1_O :=
  RlO_app (enc:=g1_E) (by intro a b h; simp [g1_E,Prod.ext_iff] at h ⊢; simp [h]) (y0,y1,y2,y3,y4)
/-! slices.ContainsFunc[[]impl.Put,impl.Put] -/
def g0_tf:TFn:=⟨(sq [mk 4 (kb false)] [0,1] (.seq (.ops [mo 5 0,mo 6 1,ca 7 58 [.t 5,.t 6],bn 8 .geq (.t 7) (ki 0),mo 4 8]) (.keep (kp [(4,0)] [] 0) .ret))),[.t 4]⟩
abbrev g0_S:=Sys.on [(58,g1_r)] []
def slices_ContainsFunc_impl_Put_impl_Put__ValidDisk_c2 (a_s:List (Int × Str)) (a_f:List Str) (a_f':List (Int × Str)) (a_f'':Int) (a_f''':Bool):Option (Bool):=(slices_IndexFunc_impl_Put_impl_Put__ValidDisk_c2 a_s a_f a_f' a_f'' a_f''').bind fun r1=>some ((decide (r1 ≥ 0)))
@[simp] def g0_O:Bool → TV × List Blk:=fun r=>((.bool r),[])
def g0_E (a:(List (Int × Str)) × List Str × (List (Int × Str)) × Int × Bool):List TV:=[(.vs (rows a.1)),(.fn 42 [] [(.vp [(.vs (rows a.2.1)),(.vs (rows a.2.2.1)),(.int .i64 a.2.2.2.1),(.bool a.2.2.2.2)])])]
theorem g0_run (a_s:List (Int × Str)) (a_f:List Str) (a_f':List (Int × Str)) (a_f'':Int) (a_f''':Bool) :callFn (X g0_S) g0_tf (g0_E (a_s,a_f,a_f',a_f'',a_f''')) [] = (slices_ContainsFunc_impl_Put_impl_Put__ValidDisk_c2 a_s a_f a_f' a_f'' a_f''').map g0_O:=by
  rw [callFn_eq]
  simp (maxSteps:=2000000) (maxDischargeDepth:=8) -implicitDefEqProofs [g0_tf,slices_ContainsFunc_impl_Put_impl_Put__ValidDisk_c2,g0_E] <;> (try simp only [map_to_bind,some_elim,g0_O])
def g0_r:Rule:=RlO g0_E (fun a=>slices_ContainsFunc_impl_Put_impl_Put__ValidDisk_c2 a.1 a.2.1 a.2.2.1 a.2.2.2.1 a.2.2.2.2) g0_O
theorem g0_ok:RuleOk Try.prog 41 g0_r:=ok_rlo (S:=g0_S) (tf:=g0_tf) (SysOk.on ⟨g1_ok,trivial⟩ trivial) (trE_ok (ks:=[]) Try.func41 (by kernel_rfl)) fun a=>g0_run a.1 a.2.1 a.2.2.1 a.2.2.2.1 a.2.2.2.2
@[simp] theorem g0_app (y0 y1 y2 y3 y4):g0_r [(.vs (rows y0)),(.fn 42 [] [(.vp [(.vs (rows y1)),(.vs (rows y2)),(.int .i64 y3),(.bool y4)])])] = (slices_ContainsFunc_impl_Put_impl_Put__ValidDisk_c2 y0 y1 y2 y3 y4).map g0_O :=
  RlO_app (enc:=g0_E) (by intro a b h; simp [g0_E,Prod.ext_iff] at h ⊢; simp [h]) (y0,y1,y2,y3,y4)
/-! impl.ValidDisk -/
def g37_tf:TFn:=⟨(sq [bx 1 0,mk 2 (kb false)] [1] (.seq (sq [fa 3 0 1,ld 4 3,le 5 4,ca 6 37 [.t 5,ki 16,ki 256],nt 7 6,mo 8 7,⟨(some 9),(some (8,false)),(.faddr 1 (.t 1))⟩,⟨(some 10),(some (8,false)),(.load none (.t 9))⟩,⟨(some 11),(some (8,false)),(.len false (.t 10))⟩,⟨(some 12),(some (8,false)),(.bin .num .gtr (.t 11) (ki 600))⟩,pk 13 (.t 8) (kb true) (.t 12),mo 14 13,⟨(some 15),(some (14,false)),(.faddr 2 (.t 1))⟩,⟨(some 16),(some (14,false)),(.load none (.t 15))⟩,⟨(some 17),(some (14,false)),(.call 37 [.t 16,(ki (-1)),ki 100000])⟩,⟨(some 18),(some (14,false)),(.un .not (.t 17))⟩,pk 19 (.t 14) (kb true) (.t 18)] [1,19] (.cond (.t 19) (.seq (.ops [mk 2 (kb false)]) (.keep (kp [(2,0)] [] 0) .ret)) .skip)) (.trim [1] (.seq (sq [fa 20 0 1,ld 21 20,oo 22 (.call 38 [.t 21,(.c (.fn 39 [] []))])] [1,22] (.cond (.t 22) (.seq (.ops [mk 2 (kb false)]) (.keep (kp [(2,0)] [] 0) .ret)) .skip)) (.trim [1] (.seq (.ops [fa 23 1 1,ld 24 23,oo 25 (.mkfn 42 [] [.t 1]),ca 26 41 [.t 24,.t 25],nt 27 26,mo 2 27]) (.keep (kp [(2,0)] [] 0) .ret))))))),[.t 2]⟩
abbrev g37_S:=Sys.on [(37,g58_r),(38,g2_r),(41,g0_r)] []
def impl_ValidDisk (a_d:K0):Option (Bool):=(impl_within ((a_d.1.length:Int)) 16 256).bind fun r1=>if ¬(r1 = true) then some false else if (a_d.2.1.length:Int) > 600 then some false else (impl_within a_d.2.2.1 ((-1)) 100000).bind fun r2=>if ¬(r2 = true) then some false else (slices_ContainsFunc_string_string__ValidDisk_c1 a_d.1).bind fun r3=>if r3 = true then some false else (slices_ContainsFunc_impl_Put_impl_Put__ValidDisk_c2 a_d.2.1 a_d.1 a_d.2.1 a_d.2.2.1 a_d.2.2.2).bind fun r4=>some ((!r4))
@[simp] def g37_O:Bool → TV × List Blk:=fun r=>((.bool r),[])
def g37_E (a:K0):List TV:=[(.agg [(.vs (rows a.1)),(.vs (rows a.2.1)),(.int .i64 a.2.2.1),(.bool a.2.2.2)])]
theorem g37_run (a_d:K0) :callFn (X g37_S) g37_tf (g37_E a_d) [] = (impl_ValidDisk a_d).map g37_O:=by
  rw [callFn_eq]
  simp (maxSteps:=2000000) (maxDischargeDepth:=8) -implicitDefEqProofs [g37_tf,impl_ValidDisk,g37_E] <;> (try simp only [map_to_bind,some_elim,g37_O])
def g37_r:Rule:=RlO g37_E (fun a=>impl_ValidDisk a) g37_O
theorem g37_ok:RuleOk Try.prog 17 g37_r:=ok_rlo (S:=g37_S) (tf:=g37_tf) (SysOk.on ⟨g58_ok,g2_ok,g0_ok,trivial⟩ trivial) (trE_ok (ks:=[]) Try.func17 (by kernel_rfl)) fun a=>g37_run a
@[simp] theorem g37_app (y0 y1 y2 y3):g37_r [(.agg [(.vs (rows y0)),(.vs (rows y1)),(.int .i64 y2),(.bool y3)])] = (impl_ValidDisk ((y0,y1,y2,y3))).map g37_O :=
  RlO_app (enc:=g37_E) (by intro a b h; simp [g37_E,Prod.ext_iff] at h ⊢; simp [h]) ((y0,y1,y2,y3))
/-! (impl.Disk).read -/
def impl_Disk_read (d:K0) (k:Int):Option Str:=readD d k
noncomputable def g38_r:Rule:=read_r
theorem g38_ok:RuleOk Try.prog 45 g38_r:=read_ok
@[simp] theorem g38_app (y0 y1 y2 y3 y4):g38_r [.agg [.vs (rows y0),.vs (rows y1),.int .i64 y2,.bool y3],.int .i64 y4] = (impl_Disk_read (y0,y1,y2,y3) y4).map (fun r=>(.str r,[])):=read_app y0 y1 y2 y3 y4
/-! impl.cut -/
def g65_tf:TFn:=⟨(sq [mk 6 (.c (.str [])),mk 7 (kb false)] [0,1,2] (.seq (sq [mo 8 2,bn 9 .lss (.t 8) (ki 0),mo 10 9,⟨(some 11),(some (10,false)),(.mv (.t 1))⟩,⟨(some 12),(some (10,false)),(.mv (.t 0))⟩,⟨(some 13),(some (10,false)),(.len true (.t 12))⟩,⟨(some 14),(some (10,false)),(.mv (.t 2))⟩,⟨(some 15),(some (10,false)),(.bin .num .sub (.t 13) (.t 14))⟩,⟨(some 16),(some (10,false)),(.call 37 [.t 11,ki 0,.t 15])⟩,⟨(some 17),(some (10,false)),(.un .not (.t 16))⟩,pk 18 (.t 10) (kb true) (.t 17)] [0,1,2,18] (.cond (.t 18) (.seq (.ops [mk 6 (.c (.str [])),mk 7 (kb false)]) (.keep (kp [(6,0),(7,0)] [] 0) .ret)) .skip)) (.trim [0,1,2] (.seq (.ops [mo 19 0,mo 20 1,mo 21 1,mo 22 2,bn 23 .add (.t 21) (.t 22),oo 24 (.sliceS (.t 19) (some (.t 20)) (some (.t 23))),mo 6 24,mk 7 (kb true)]) (.keep (kp [(6,0),(7,0)] [] 0) .ret))))),[.t 6,.t 7]⟩
abbrev g65_S:=Sys.on [(37,g58_r)] []
def impl_cut (a_s:Str) (a_at:Int) (a_size:Int):Option (Str × Bool):=if a_size < 0 then some (([]:Str),false) else (impl_within a_at 0 ((IntKind.i64.wrap ((a_s.length:Int) - a_size)))).bind fun r1=>if ¬(r1 = true) then some (([]:Str),false) else (subL a_s (some a_at) (some ((IntKind.i64.wrap (a_at + a_size))))).bind fun s2=>some (s2,true)
@[simp] def g65_O:(Str × Bool) → TV × List Blk:=fun r=>((.tup [(.str r.1),(.bool r.2)]),[])
def g65_E (a:Str × Int × Int):List TV:=[(.str a.1),(.int .i64 a.2.1),(.int .i64 a.2.2)]
theorem g65_run (a_s:Str) (a_at:Int) (a_size:Int) :callFn (X g65_S) g65_tf (g65_E (a_s,a_at,a_size)) [] = (impl_cut a_s a_at a_size).map g65_O:=by
  rw [callFn_eq]
  simp (maxSteps:=2000000) (maxDischargeDepth:=8) -implicitDefEqProofs [g65_tf,impl_cut,g65_E] <;> (try simp only [map_to_bind,some_elim,g65_O])
def g65_r:Rule:=RlO g65_E (fun a=>impl_cut a.1 a.2.1 a.2.2) g65_O
theorem g65_ok:RuleOk Try.prog 68 g65_r:=ok_rlo (S:=g65_S) (tf:=g65_tf) (SysOk.on ⟨g58_ok,trivial⟩ trivial) (trE_ok (ks:=[]) Try.func68 (by kernel_rfl)) fun a=>g65_run a.1 a.2.1 a.2.2
@[simp] theorem g65_app (y0 y1 y2):g65_r [(.str y0),(.int .i64 y1),(.int .i64 y2)] = (impl_cut y0 y1 y2).map g65_O :=
  RlO_app (enc:=g65_E) (by intro a b h; simp [g65_E,Prod.ext_iff] at h ⊢; simp [h]) (y0,y1,y2)
/-! (*impl.decoder).take -/
def g9_tf:TFn:=⟨(sq [mk 4 (.c (.str []))] [0,1] (sq [mo 8 0,nk 9 8,fa 10 0 9,ld 11 10,mo 12 1,ca 13 68 [.t 11,ki 0,.t 12],mo 7 13,oo 14 (.ext (.t 7) 0),oo 15 (.ext (.t 7) 1),mo 5 14,mo 6 15] [0,1,5,6] (.seq (sq [mo 16 6,nt 17 16] [0,1,5,17] (.cond (.t 17) (sq [mo 18 0,nk 19 18,fa 20 1 19,⟨none,none,(.store 1 (.t 20) (kb true))⟩] [] (.seq (.ops [mk 4 (.c (.str []))]) (.keep (kp [(4,0)] [(0,0)] 1) .ret))) .skip)) (.trim [0,1,5] (sq [mo 21 0,mo 22 0,nk 23 22,fa 24 0 23,ld 25 24,mo 26 1,oo 27 (.sliceS (.t 25) (some (.t 26)) none),nk 28 21,fa 29 0 28,⟨none,none,(.store 1 (.t 29) (.t 27))⟩] [5] (.seq (.ops [mo 30 5,mo 4 30]) (.keep (kp [(4,0)] [(0,0)] 1) .ret))))))),[.t 4]⟩
abbrev g9_S:=Sys.on [(68,g65_r)] []
def impl_decoder_take_o1a (a1:Str × Bool) (a2:Int):Option ((Str × Bool) × Str):=(impl_cut a1.1 0 a2).bind fun r1=>if ¬(r1.2 = true) then some ((a1.1,true),([]:Str)) else (subL a1.1 (some a2) none).bind fun s2=>some ((s2,a1.2),r1.1)
@[simp] def g9_O:((Str × Bool) × Str) → TV × List Blk:=fun r=>((.str r.2),[(.live 2 [[(.str r.1.1),(.bool r.1.2)]])])
abbrev g9_T:=(Str × Bool) × Int
def g9_E (a:g9_T):List TV:=[(.ptr 0 0 0),(.int .i64 a.2)]
def g9_B (a:g9_T):List Blk:=[(.live 2 [[(.str a.1.1),(.bool a.1.2)]])]
theorem g9_run (a1:Str × Bool) (a2:Int) :callFn (X g9_S) g9_tf (g9_E (a1,a2)) (g9_B (a1,a2)) = (impl_decoder_take_o1a a1 a2).map g9_O:=by
  rw [callFn_eq]
  simp (maxSteps:=2000000) (maxDischargeDepth:=8) -implicitDefEqProofs [g9_tf,impl_decoder_take_o1a,g9_E,g9_B] <;> (try simp only [map_to_bind,some_elim,g9_O])
def g9_r:MRule:=RmO g9_E g9_B (fun a=>impl_decoder_take_o1a a.1 a.2) g9_O
theorem g9_ok:MRuleOk Try.prog 65 1 g9_r:=ok_rmo (S:=g9_S) (tf:=g9_tf) (SysOk.on ⟨g65_ok,trivial⟩ trivial) (trE_ok (ks:=[]) Try.func65 (by kernel_rfl)) (by rfl) (fun _=>by simp [g9_B]) (fun _=>by simp) fun a=>g9_run a.1 a.2
@[simp] theorem g9_app (y0 y1 y2):g9_r [(.ptr 0 0 0),(.int .i64 y2)] [(.live 2 [[(.str y0),(.bool y1)]])] = (impl_decoder_take_o1a ((y0,y1)) y2).map g9_O:=by
  exact RmO_app (enc:=g9_E) (encB:=g9_B) (by intro a b h h2; simp [g9_E,g9_B,Prod.ext_iff] at h h2 ⊢; simp [h,h2]) ((y0,y1),y2)
/-! impl.getBits -/
def g53l1_cb:TC:=(sq [bn 8 .lss (.t 7) (.t 6)] [0,3,6,7,8] (.seq (.cond (.t 8) .skip (.keep (kp [(3,0)] [] 0) (.exit 0))) (.trim [0,3,6,7] (.seq (.block 1 (sq [mo 9 7,mo 4 9] [0,3,4,6,7] (.ops [mo 10 3,mo 11 0,mo 12 4,oo 13 (.index (.t 11) (.t 12)),oo 14 (.conv (.toInt .u64) (.t 13)),mo 15 4,bn 16 .mul (ki 8) (.t 15),bn 17 .shl (.t 14) (.t 16),bn 18 .or (.t 10) (.t 17),mo 3 18]))) (.trim [0,3,6,7] (.after (.ops [bn 19 .add (.t 7) (ki 1),mo 7 19]) (kp [(0,0),(3,0),(6,0),(7,0)] [] 0)))))))
def g53l1_c:TC:=.loop [0,3,6,7] g53l1_cb
def g53_tf:TFn:=⟨(sq [mk 2 (.c (.int .u64 0))] [0] (sq [mk 3 (.c (.int .u64 0))] [0,3] (.seq (sq [mo 5 0,oo 6 (.len true (.t 5)),mk 7 (ki 0)] [0,3,6,7] (.block 0 (.keep (kp [(0,0),(3,0),(6,0),(7,0)] [] 0) g53l1_c))) (.trim [3] (.seq (.ops [mo 20 3,mo 2 20]) (.keep (kp [(2,0)] [] 0) .ret)))))),[.t 2]⟩
abbrev g53_S:=Sys.on [] []
@[reducible,simp] def g53l1_F:Int → Out:=(fun t=>(.ext 0,[(3,(.int .u64 t))],[]))
def impl_getBits_l1_b (v1:Str) (v3:Int) (v2:Int) (v4:Int):Option ((Int × Int) ⊕ (Int)):=if v4 < v3 then if 0 ≤ v4 then (v1[(v4).toNat]?).bind fun (b5:UInt8)=>if (IntKind.i64.wrap (8 * v4)) < 0 then none else some (.inl ((bitV .or .u64 v2 ((shlV .u64 ((IntKind.u64.wrap ((b5.toNat:Int)))) ((IntKind.i64.wrap (8 * v4)))))),(IntKind.i64.wrap (v4 + 1)))) else none else some (.inr v2)
theorem g53l1_b_eq  (v1:Str) (v3:Int) (v2:Int) (v4:Int):X g53_S g53l1_cb (keepEnv [0,3,6,7] [(0,(.str v1)),(3,(.int .u64 v2)),(6,(.int .i64 v3)),(7,(.int .i64 v4))]) [] = (impl_getBits_l1_b v1 v3 v2 v4).map (Sum.elim (fun s=>(TX.nrm,[(0,(.str v1)),(3,(.int .u64 s.1)),(6,(.int .i64 v3)),(7,(.int .i64 s.2))],[])) g53l1_F):=by
  simp (maxSteps:=2000000) (maxDischargeDepth:=8) -implicitDefEqProofs [g53l1_cb,impl_getBits_l1_b] <;> (try simp only [map_to_bind,some_elim,g53l1_F])
def impl_getBits_l1 (v1:Str) (v3:Int) (s:Int × Int):Option (Int):=loopO (fun s=>impl_getBits_l1_b v1 v3 s.1 s.2) s
@[simp] theorem g53l1_eq (y0 y1 y2 y3):X g53_S g53l1_c [(0,(.str y0)),(3,(.int .u64 y1)),(6,(.int .i64 y2)),(7,(.int .i64 y3))] [] = (impl_getBits_l1 y0 y2 (y1,y3)).map g53l1_F:=by
  exact loop_X _ _ _ _ (by intro r; first | (simp; done) | (rcases r with r | r <;> simp; done) | (rcases r with r | r | r <;> simp; done) | (rcases r with r | r | r | r <;> simp)) (fun s=>g53l1_b_eq  y0 y2 s.1 s.2) (y1,y3)
def impl_getBits (a_s:Str):Option (Int):=(impl_getBits_l1 a_s ((a_s.length:Int)) ((0,0))).bind fun r6=>some r6
@[simp] def g53_O:Int → TV × List Blk:=fun r=>((.int .u64 r),[])
def g53_E (a:Str):List TV:=[(.str a)]
theorem g53_run (a_s:Str) :callFn (X g53_S) g53_tf (g53_E a_s) [] = (impl_getBits a_s).map g53_O:=by
  rw [callFn_eq]
  simp (maxSteps:=2000000) (maxDischargeDepth:=8) -implicitDefEqProofs [g53_tf,impl_getBits,g53_E] <;> (try simp only [map_to_bind,some_elim,g53_O])
def g53_r:Rule:=RlO g53_E (fun a=>impl_getBits a) g53_O
theorem g53_ok:RuleOk Try.prog 64 g53_r:=ok_rlo (S:=g53_S) (tf:=g53_tf) (SysOk.on trivial trivial) (trE_ok (ks:=[[0,3,6,7]]) Try.func64 (by kernel_rfl)) fun a=>g53_run a
@[simp] theorem g53_app (y0):g53_r [(.str y0)] = (impl_getBits y0).map g53_O :=
  RlO_app (enc:=g53_E) (by intro a b h; simp [g53_E,Prod.ext_iff] at h ⊢; simp [h]) y0
/-! (*impl.decoder).number -/
def g7_tf:TFn:=⟨(sq [mk 4 (ki 0)] [0,1] (.seq (.ops [mo 5 0,mo 6 1,oo 7 (.callM 65 0 [0] [.t 5,.t 6]),ca 8 64 [.t 7],oo 9 (.conv (.toInt .i64) (.t 8)),mo 4 9]) (.keep (kp [(4,0)] [(0,0)] 1) .ret))),[.t 4]⟩
abbrev g7_S:=Sys.on [(64,g53_r)] [((65,0),(1,g9_r))]
def impl_decoder_number_o1a (a1:Str × Bool) (a2:Int):Option ((Str × Bool) × Int):=(impl_decoder_take_o1a a1 a2).bind fun r1=>(impl_getBits r1.2).bind fun r2=>some (r1.1,(IntKind.i64.wrap r2))
@[simp] def g7_O:((Str × Bool) × Int) → TV × List Blk:=fun r=>((.int .i64 r.2),[(.live 2 [[(.str r.1.1),(.bool r.1.2)]])])
abbrev g7_T:=(Str × Bool) × Int
def g7_E (a:g7_T):List TV:=[(.ptr 0 0 0),(.int .i64 a.2)]
def g7_B (a:g7_T):List Blk:=[(.live 2 [[(.str a.1.1),(.bool a.1.2)]])]
theorem g7_run (a1:Str × Bool) (a2:Int) :callFn (X g7_S) g7_tf (g7_E (a1,a2)) (g7_B (a1,a2)) = (impl_decoder_number_o1a a1 a2).map g7_O:=by
  rw [callFn_eq]
  simp (maxSteps:=2000000) (maxDischargeDepth:=8) -implicitDefEqProofs [g7_tf,impl_decoder_number_o1a,g7_E,g7_B] <;> (try simp only [map_to_bind,some_elim,g7_O])
def g7_r:MRule:=RmO g7_E g7_B (fun a=>impl_decoder_number_o1a a.1 a.2) g7_O
theorem g7_ok:MRuleOk Try.prog 59 1 g7_r:=ok_rmo (S:=g7_S) (tf:=g7_tf) (SysOk.on ⟨g53_ok,trivial⟩ ⟨g9_ok,trivial⟩) (trE_ok (ks:=[]) Try.func59 (by kernel_rfl)) (by rfl) (fun _=>by simp [g7_B]) (fun _=>by simp) fun a=>g7_run a.1 a.2
@[simp] theorem g7_app (y0 y1 y2):g7_r [(.ptr 0 0 0),(.int .i64 y2)] [(.live 2 [[(.str y0),(.bool y1)]])] = (impl_decoder_number_o1a ((y0,y1)) y2).map g7_O:=by
  exact RmO_app (enc:=g7_E) (encB:=g7_B) (by intro a b h h2; simp [g7_E,g7_B,Prod.ext_iff] at h h2 ⊢; simp [h,h2]) ((y0,y1),y2)
/-! impl.ValidSuper -/
def g30_tf:TFn:=⟨(sq [bx 1 0,mk 2 (kb false)] [1] (.seq (.after (.ops [fa 3 0 1,ld 4 3,ca 5 37 [.t 4,ki 16,ki 256],mo 6 5,⟨(some 7),(some (6,true)),(.faddr 1 (.t 1))⟩,⟨(some 8),(some (6,true)),(.load none (.t 7))⟩,⟨(some 9),(some (6,true)),(.faddr 0 (.t 1))⟩,⟨(some 10),(some (6,true)),(.load none (.t 9))⟩,⟨(some 11),(some (6,true)),(.bin .num .sub (.t 10) (ki 4))⟩,⟨(some 12),(some (6,true)),(.mm false (ki 64) (.t 11))⟩,⟨(some 13),(some (6,true)),(.call 37 [.t 8,ki 8,.t 12])⟩,pk 14 (.t 6) (.t 13) (kb false),mo 15 14,⟨(some 16),(some (15,true)),(.faddr 2 (.t 1))⟩,⟨(some 17),(some (15,true)),(.load none (.t 16))⟩,⟨(some 18),(some (15,true)),(.call 37 [.t 17,ki 0,ki 1000000000000])⟩,pk 19 (.t 15) (.t 18) (kb false),mo 20 19,⟨(some 21),(some (20,true)),(.faddr 3 (.t 1))⟩,⟨(some 22),(some (20,true)),(.load none (.t 21))⟩,⟨(some 23),(some (20,true)),(.call 37 [.t 22,ki 0,ki 1000000000000])⟩,pk 24 (.t 20) (.t 23) (kb false),mo 2 24]) (kp [(2,0)] [] 0)) (.keep (kp [(2,0)] [] 0) .ret))),[.t 2]⟩
abbrev g30_S:=Sys.on [(37,g58_r)] []
def impl_ValidSuper (a_s:Int × Int × Int × Int):Option (Bool):=(impl_within a_s.1 16 256).bind fun r1=>if r1 = true then (impl_within a_s.2.1 8 ((min 64 ((IntKind.i64.wrap (a_s.1 - 4)))))).bind fun r2=>if r2 = true then (impl_within a_s.2.2.1 0 1000000000000).bind fun r3=>if r3 = true then (impl_within a_s.2.2.2 0 1000000000000).bind fun r4=>some r4 else some false else some false else some false
@[simp] def g30_O:Bool → TV × List Blk:=fun r=>((.bool r),[])
def g30_E (a:(Int × Int × Int × Int)):List TV:=[(.agg [(.int .i64 a.1),(.int .i64 a.2.1),(.int .i64 a.2.2.1),(.int .i64 a.2.2.2)])]
theorem g30_run (a_s:Int × Int × Int × Int) :callFn (X g30_S) g30_tf (g30_E a_s) [] = (impl_ValidSuper a_s).map g30_O:=by
  rw [callFn_eq]
  simp (maxSteps:=2000000) (maxDischargeDepth:=8) -implicitDefEqProofs [g30_tf,impl_ValidSuper,g30_E] <;> (try simp only [map_to_bind,some_elim,g30_O])
def g30_r:Rule:=RlO g30_E (fun a=>impl_ValidSuper a) g30_O
theorem g30_ok:RuleOk Try.prog 48 g30_r:=ok_rlo (S:=g30_S) (tf:=g30_tf) (SysOk.on ⟨g58_ok,trivial⟩ trivial) (trE_ok (ks:=[]) Try.func48 (by kernel_rfl)) fun a=>g30_run a
@[simp] theorem g30_app (y0 y1 y2 y3):g30_r [(.agg [(.int .i64 y0),(.int .i64 y1),(.int .i64 y2),(.int .i64 y3)])] = (impl_ValidSuper ((y0,y1,y2,y3))).map g30_O :=
  RlO_app (enc:=g30_E) (by intro a b h; simp [g30_E,Prod.ext_iff] at h ⊢; simp [h]) ((y0,y1,y2,y3))
/-! impl.putBytes -/
def g42l1_cb:TC:=(sq [bn 12 .lss (.t 11) (.t 10)] [0,5,10,11,12] (.seq (.cond (.t 12) .skip (.keep (kp [(5,1)] [(0,1)] 0) (.exit 0))) (.trim [0,5,10,11] (.seq (.block 1 (sq [mo 13 11,mo 6 13] [0,5,6,10,11] (.ops [mo 14 5,mo 15 6,mo 16 0,mo 17 6,bn 18 .mul (ki 8) (.t 17),bn 19 .shr (.t 16) (.t 18),oo 20 (.conv (.toInt .u8) (.t 19)),ia 21 1 14 15,⟨none,none,(.store 1 (.t 21) (.t 20))⟩]))) (.trim [0,5,10,11] (.after (.ops [bn 22 .add (.t 11) (ki 1),mo 11 22]) (kp [(0,0),(5,1),(10,0),(11,0)] [(0,1)] 0)))))))
def g42l1_c:TC:=.loop [0,5,10,11] g42l1_cb
def g42_tf:TFn:=⟨(sq [mk 4 (.c (.str []))] [0,1] (sq [mo 7 1,oo 8 (.mkslice 1 [(.int .u8 0)] (.t 7) (.t 7)),mo 5 8] [0,5] (.seq (sq [mo 9 5,le 10 9,mk 11 (ki 0)] [0,5,10,11] (.block 0 (.keep (kp [(0,0),(5,1),(10,0),(11,0)] [(0,1)] 0) g42l1_c))) (.trim [5] (.seq (.ops [mo 23 5,oo 24 (.conv .toStr (.t 23)),mo 4 24]) (.keep (kp [(4,0)] [] 0) .ret)))))),[.t 4]⟩
abbrev g42_S:=Sys.on [] []
@[reducible,simp] def g42l1_F:(List Bt) → Out:=(fun t=>(.ext 0,[(5,(ow 0 t.length))],[(ob 1 t)]))
def impl_putBytes_l1_b (v2:Int) (v4:Int) (v3:List Bt) (v5:Int):Option ((List Bt × Int) ⊕ (List Bt)):=if v5 < v4 then if (IntKind.i64.wrap (8 * v5)) < 0 then none else if 0 ≤ v5 ∧ v5 < ((v3.length:Nat):Int) then (v3[(v5).toNat]?).bind fun x6=>some (.inl ((v3.set (v5).toNat (⟨UInt8.ofNat ((IntKind.u8.wrap ((shrV .i64 v2 ((IntKind.i64.wrap (8 * v5))))))).toNat⟩:Bt)),(IntKind.i64.wrap (v5 + 1)))) else none else some (.inr v3)
theorem g42l1_b_eq  (v2:Int) (v4:Int) (v3:List Bt) (v5:Int):X g42_S g42l1_cb (keepEnv [0,5,10,11] [(0,(.int .i64 v2)),(5,(ow 0 v3.length)),(10,(.int .i64 v4)),(11,(.int .i64 v5))]) [(ob 1 v3)] = (impl_putBytes_l1_b v2 v4 v3 v5).map (Sum.elim (fun s=>(TX.nrm,[(0,(.int .i64 v2)),(5,(ow 0 s.1.length)),(10,(.int .i64 v4)),(11,(.int .i64 s.2))],[(ob 1 s.1)])) g42l1_F):=by
  simp (maxSteps:=2000000) (maxDischargeDepth:=8) -implicitDefEqProofs [g42l1_cb,impl_putBytes_l1_b,mksliceV_typed (z:=((⟨0⟩:Bt):Bt)) (zs:=[(.int .u8 0)]) rfl (by decide)] <;> (try simp only [map_to_bind,some_elim,g42l1_F])
def impl_putBytes_l1 (v2:Int) (v4:Int) (s:List Bt × Int):Option (List Bt):=loopO (fun s=>impl_putBytes_l1_b v2 v4 s.1 s.2) s
@[simp] theorem g42l1_eq (y0)(y1:List Bt)(y2 y3){n1:Nat}(h1:n1 = y1.length):X g42_S g42l1_c [(0,(.int .i64 y0)),(5,(ow 0 n1)),(10,(.int .i64 y2)),(11,(.int .i64 y3))] [(ob 1 y1)] = (impl_putBytes_l1 y0 y2 (y1,y3)).map g42l1_F:=by
  subst h1
  exact loop_X _ _ _ _ (by intro r; first | (simp; done) | (rcases r with r | r <;> simp; done) | (rcases r with r | r | r <;> simp; done) | (rcases r with r | r | r | r <;> simp)) (fun s=>g42l1_b_eq  y0 y2 s.1 s.2) (y1,y3)
def impl_putBytes (a_n:Int) (a_size:Int):Option (Str):=(mkL 1 a_size a_size ((⟨0⟩:Bt):Bt)).bind fun l1=>(impl_putBytes_l1 a_n (((l1.length:Nat):Int)) ((l1,0))).bind fun r7=>some ((r7.map Bt.v))
@[simp] def g42_O:Str → TV × List Blk:=fun r=>((.str r),[])
def g42_E (a:Int × Int):List TV:=[(.int .i64 a.1),(.int .i64 a.2)]
theorem g42_run (a_n:Int) (a_size:Int) :callFn (X g42_S) g42_tf (g42_E (a_n,a_size)) [] = (impl_putBytes a_n a_size).map g42_O:=by
  rw [callFn_eq]
  simp (maxSteps:=2000000) (maxDischargeDepth:=8) -implicitDefEqProofs [g42_tf,impl_putBytes,g42_E,mksliceV_typed (z:=((⟨0⟩:Bt):Bt)) (zs:=[(.int .u8 0)]) rfl (by decide)] <;> (try simp only [map_to_bind,some_elim,g42_O])
def g42_r:Rule:=RlO g42_E (fun a=>impl_putBytes a.1 a.2) g42_O
theorem g42_ok:RuleOk Try.prog 62 g42_r:=ok_rlo (S:=g42_S) (tf:=g42_tf) (SysOk.on trivial trivial) (trE_ok (ks:=[[0,5,10,11]]) Try.func62 (by kernel_rfl)) fun a=>g42_run a.1 a.2
@[simp] theorem g42_app (y0 y1):g42_r [(.int .i64 y0),(.int .i64 y1)] = (impl_putBytes y0 y1).map g42_O :=
  RlO_app (enc:=g42_E) (by intro a b h; simp [g42_E,Prod.ext_iff] at h ⊢; simp [h]) (y0,y1)
/-! strings.Repeat -/
noncomputable def strings_Repeat (s:Str) (n:Int):Option Str:=repS s n
noncomputable def strings_Repeat_r:Rule:=repS_r
@[simp] theorem strings_Repeat_app (y0 y1):strings_Repeat_r [.str y0,.int .i64 y1] = (strings_Repeat y0 y1).map (fun r=>(.str r,[])):=repS_app y0 y1
/-! impl.zeros -/
def g63_tf:TFn:=⟨(sq [mk 2 (.c (.str []))] [0] (.seq (.ops [mo 3 0,oo 4 (.call 69 [(.c (.str [0])),.t 3]),mo 2 4]) (.keep (kp [(2,0)] [] 0) .ret))),[.t 2]⟩
abbrev g63_S:=Sys.on [(69,strings_Repeat_r)] []
def impl_zeros (a_n:Int):Option (Str):=(strings_Repeat (([0]:Str)) a_n).bind fun r1=>some r1
@[simp] def g63_O:Str → TV × List Blk:=fun r=>((.str r),[])
def g63_E (a:Int):List TV:=[(.int .i64 a)]
theorem g63_run (a_n:Int) :callFn (X g63_S) g63_tf (g63_E a_n) [] = (impl_zeros a_n).map g63_O:=by
  rw [callFn_eq]
  simp (maxSteps:=2000000) (maxDischargeDepth:=8) -implicitDefEqProofs [g63_tf,impl_zeros,g63_E] <;> (try simp only [map_to_bind,some_elim,g63_O])
def g63_r:Rule:=RlO g63_E (fun a=>impl_zeros a) g63_O
theorem g63_ok:RuleOk Try.prog 67 g63_r:=ok_rlo (S:=g63_S) (tf:=g63_tf) (SysOk.on ⟨strings_Repeat_ok,trivial⟩ trivial) (trE_ok (ks:=[]) Try.func67 (by kernel_rfl)) fun a=>g63_run a
@[simp] theorem g63_app (y0):g63_r [(.int .i64 y0)] = (impl_zeros y0).map g63_O :=
  RlO_app (enc:=g63_E) (by intro a b h; simp [g63_E,Prod.ext_iff] at h ⊢; simp [h]) y0
/-! impl.padded -/
def g59_tf:TFn:=⟨(sq [mk 4 (.c (.str []))] [0,1] (.seq (.ops [mo 5 0,mo 6 1,mo 7 0,oo 8 (.len true (.t 7)),bn 9 .sub (.t 6) (.t 8),ca 10 67 [.t 9],oo 11 (.bin .str .add (.t 5) (.t 10)),mo 4 11]) (.keep (kp [(4,0)] [] 0) .ret))),[.t 4]⟩
abbrev g59_S:=Sys.on [(67,g63_r)] []
def impl_padded (a_s:Str) (a_n:Int):Option (Str):=(impl_zeros ((IntKind.i64.wrap (a_n - ((a_s.length:Int)))))).bind fun r1=>if a_s.length + r1.length ≤ 9223372036854775807 then some ((a_s ++ r1)) else none
@[simp] def g59_O:Str → TV × List Blk:=fun r=>((.str r),[])
def g59_E (a:Str × Int):List TV:=[(.str a.1),(.int .i64 a.2)]
theorem g59_run (a_s:Str) (a_n:Int) :callFn (X g59_S) g59_tf (g59_E (a_s,a_n)) [] = (impl_padded a_s a_n).map g59_O:=by
  rw [callFn_eq]
  simp (maxSteps:=2000000) (maxDischargeDepth:=8) -implicitDefEqProofs [g59_tf,impl_padded,g59_E] <;> (try simp only [map_to_bind,some_elim,g59_O])
def g59_r:Rule:=RlO g59_E (fun a=>impl_padded a.1 a.2) g59_O
theorem g59_ok:RuleOk Try.prog 63 g59_r:=ok_rlo (S:=g59_S) (tf:=g59_tf) (SysOk.on ⟨g63_ok,trivial⟩ trivial) (trE_ok (ks:=[]) Try.func63 (by kernel_rfl)) fun a=>g59_run a.1 a.2
@[simp] theorem g59_app (y0 y1):g59_r [(.str y0),(.int .i64 y1)] = (impl_padded y0 y1).map g59_O :=
  RlO_app (enc:=g59_E) (by intro a b h; simp [g59_E,Prod.ext_iff] at h ⊢; simp [h]) (y0,y1)
/-! (impl.Super).encode -/
def g20_tf:TFn:=⟨(sq [bx 1 0,mk 2 (.c (.str []))] [1] (.seq (.draw [([],ca 4 62 [ki 1,ki 1]),([0],oo 5 (.bin .str .add (.c (.str [65,82,82,83])) (.t 4))),([],fa 6 0 1),([2],ld 7 6),([0,2,3],ca 8 62 [.t 7,ki 2]),([0,1,2,3,4],oo 9 (.bin .str .add (.t 5) (.t 8))),([],fa 10 1 1),([6],ld 11 10),([0,2,3,4,6,7],ca 12 62 [.t 11,ki 2]),([0,1,2,3,4,5,6,7,8],oo 13 (.bin .str .add (.t 9) (.t 12))),([],fa 14 2 1),([10],ld 15 14),([0,2,3,4,6,7,8,10,11],ca 16 62 [.t 15,ki 8]),([0,1,2,3,4,5,6,7,8,9,10,11,12],oo 17 (.bin .str .add (.t 13) (.t 16))),([],fa 18 3 1),([14],ld 19 18),([0,2,3,4,6,7,8,10,11,12,14,15],ca 20 62 [.t 19,ki 8])] [oo 21 (.bin .str .add (.t 17) (.t 20)),mo 3 21]) (.trim [3] (sq [mo 22 3,ca 23 63 [.t 22,ki 32],mo 3 23] [3] (.seq (.ops [mo 24 3,mo 25 3,oo 26 (.bin .str .add (.t 24) (.t 25)),mo 2 26]) (.keep (kp [(2,0)] [] 0) .ret)))))),[.t 2]⟩
abbrev g20_S:=Sys.on [(62,g42_r),(63,g59_r)] []
def impl_Super_encode (a_s:Int × Int × Int × Int):Option (Str):=(impl_putBytes 1 1).bind fun r1=>if (([65,82,82,83]:Str)).length + r1.length ≤ 9223372036854775807 then (impl_putBytes a_s.1 2).bind fun r2=>if ((([65,82,82,83]:Str) ++ r1)).length + r2.length ≤ 9223372036854775807 then (impl_putBytes a_s.2.1 2).bind fun r3=>if (((([65,82,82,83]:Str) ++ r1) ++ r2)).length + r3.length ≤ 9223372036854775807 then (impl_putBytes a_s.2.2.1 8).bind fun r4=>if ((((([65,82,82,83]:Str) ++ r1) ++ r2) ++ r3)).length + r4.length ≤ 9223372036854775807 then (impl_putBytes a_s.2.2.2 8).bind fun r5=>if (((((([65,82,82,83]:Str) ++ r1) ++ r2) ++ r3) ++ r4)).length + r5.length ≤ 9223372036854775807 then (impl_padded ((((((([65,82,82,83]:Str) ++ r1) ++ r2) ++ r3) ++ r4) ++ r5)) 32).bind fun r6=>if r6.length + r6.length ≤ 9223372036854775807 then some ((r6 ++ r6)) else none else none else none else none else none else none
@[simp] def g20_O:Str → TV × List Blk:=fun r=>((.str r),[])
def g20_E (a:(Int × Int × Int × Int)):List TV:=[(.agg [(.int .i64 a.1),(.int .i64 a.2.1),(.int .i64 a.2.2.1),(.int .i64 a.2.2.2)])]
theorem g20_run (a_s:Int × Int × Int × Int) :callFn (X g20_S) g20_tf (g20_E a_s) [] = (impl_Super_encode a_s).map g20_O:=by
  rw [callFn_eq]
  simp (maxSteps:=2000000) (maxDischargeDepth:=8) -implicitDefEqProofs [g20_tf,impl_Super_encode,g20_E] <;> (try simp only [map_to_bind,some_elim,g20_O])
def g20_r:Rule:=RlO g20_E (fun a=>impl_Super_encode a) g20_O
theorem g20_ok:RuleOk Try.prog 52 g20_r:=ok_rlo (S:=g20_S) (tf:=g20_tf) (SysOk.on ⟨g42_ok,g59_ok,trivial⟩ trivial) (trE_ok (ks:=[[17]]) Try.func52 (by kernel_rfl)) fun a=>g20_run a
@[simp] theorem g20_app (y0 y1 y2 y3):g20_r [(.agg [(.int .i64 y0),(.int .i64 y1),(.int .i64 y2),(.int .i64 y3)])] = (impl_Super_encode ((y0,y1,y2,y3))).map g20_O :=
  RlO_app (enc:=g20_E) (by intro a b h; simp [g20_E,Prod.ext_iff] at h ⊢; simp [h]) ((y0,y1,y2,y3))
/-! impl.DecodeSuper -/
def g24_tf:TFn:=⟨(sq [oo 2 (.alloc [(.int .i64 0),(.int .i64 0),(.int .i64 0),(.int .i64 0)]),mk 3 (kb false)] [0,2] (.seq (sq [mo 6 0,ca 7 40 [.t 6],nt 8 7] [0,2,8] (.cond (.t 8) (.seq (.ops [oo 9 (.build [(.int .i64 0),(.int .i64 0),(.int .i64 0),(.int .i64 0)] []),⟨none,none,(.store 4 (.t 2) (.t 9))⟩,mk 3 (kb false)]) (.keep (kp [(2,0),(3,0)] [(0,0)] 0) .ret)) .skip)) (.trim [0,2] (sq [mo 10 0,oo 11 (.sliceS (.t 10) (some (ki 5)) none),oo 12 (.build [(.str []),(.bool false)] [(0,1,(.t 11))]),bx 13 12,mo 4 13] [0,2,4] (sq [mo 14 4,oo 15 (.callM 59 0 [1] [.t 14,ki 2]),mo 16 4,oo 17 (.callM 59 0 [1] [.t 16,ki 2]),mo 18 4,oo 19 (.callM 59 0 [1] [.t 18,ki 8]),mo 20 4,oo 21 (.callM 59 0 [1] [.t 20,ki 8]),oo 22 (.build [(.int .i64 0),(.int .i64 0),(.int .i64 0),(.int .i64 0)] [(0,1,(.t 15)),(1,1,(.t 17)),(2,1,(.t 19)),(3,1,(.t 21))]),oo 5 (.alloc [(.int .i64 0),(.int .i64 0),(.int .i64 0),(.int .i64 0)]),⟨none,none,(.store 4 (.t 5) (.t 22))⟩] [0,2,5] (.seq (sq [ln 23 4 5,ca 24 48 [.t 23],nt 25 24,mo 26 25,⟨(some 27),(some (26,false)),(.load (some 4) (.t 5))⟩,⟨(some 28),(some (26,false)),(.call 52 [.t 27])⟩,⟨(some 29),(some (26,false)),(.mv (.t 0))⟩,⟨(some 30),(some (26,false)),(.bin .str .neq (.t 28) (.t 29))⟩,pk 31 (.t 26) (kb true) (.t 30)] [2,5,31] (.cond (.t 31) (.seq (.ops [oo 32 (.build [(.int .i64 0),(.int .i64 0),(.int .i64 0),(.int .i64 0)] []),⟨none,none,(.store 4 (.t 2) (.t 32))⟩,mk 3 (kb false)]) (.keep (kp [(2,0),(3,0)] [(0,0)] 0) .ret)) .skip)) (.trim [2,5] (.seq (.ops [ln 33 4 5,⟨none,none,(.store 4 (.t 2) (.t 33))⟩,mk 3 (kb true)]) (.keep (kp [(2,0),(3,0)] [(0,0)] 0) .ret))))))))),[.cell 2 (some 4),.t 3]⟩
abbrev g24_S:=Sys.on [(40,g51_r),(48,g30_r),(52,g20_r)] [((59,0),(1,g7_r))]
def impl_DecodeSuper (a_block:Str):Option ((Int × Int × Int × Int) × Bool):=(impl_isBlock a_block).bind fun r1=>if ¬(r1 = true) then some ((0,0,0,0),false) else (subL a_block (some 5) none).bind fun s2=>(impl_decoder_number_o1a ((s2,false)) 2).bind fun r3=>(impl_decoder_number_o1a r3.1 2).bind fun r4=>(impl_decoder_number_o1a r4.1 8).bind fun r5=>(impl_decoder_number_o1a r5.1 8).bind fun r6=>(impl_ValidSuper ((r3.2,r4.2,r5.2,r6.2))).bind fun r7=>if ¬(r7 = true) then some ((0,0,0,0),false) else (impl_Super_encode ((r3.2,r4.2,r5.2,r6.2))).bind fun r8=>if ¬(r8 = a_block) then some ((0,0,0,0),false) else some ((r3.2,r4.2,r5.2,r6.2),true)
@[simp] def g24_O:((Int × Int × Int × Int) × Bool) → TV × List Blk:=fun r=>((.tup [(.agg [(.int .i64 r.1.1),(.int .i64 r.1.2.1),(.int .i64 r.1.2.2.1),(.int .i64 r.1.2.2.2)]),(.bool r.2)]),[(.live 4 [[(.int .i64 r.1.1),(.int .i64 r.1.2.1),(.int .i64 r.1.2.2.1),(.int .i64 r.1.2.2.2)]])])
def g24_E (a:Str):List TV:=[(.str a)]
theorem g24_run (a_block:Str) :callFn (X g24_S) g24_tf (g24_E a_block) [] = (impl_DecodeSuper a_block).map g24_O:=by
  rw [callFn_eq]
  simp (maxSteps:=2000000) (maxDischargeDepth:=8) -implicitDefEqProofs [g24_tf,impl_DecodeSuper,g24_E] <;> (try simp only [map_to_bind,some_elim,g24_O])
def g24_r:Rule:=RlO g24_E (fun a=>impl_DecodeSuper a) g24_O
theorem g24_ok:RuleOk Try.prog 44 g24_r:=ok_rlo (S:=g24_S) (tf:=g24_tf) (SysOk.on ⟨g51_ok,g30_ok,g20_ok,trivial⟩ ⟨g7_ok,trivial⟩) (trE_ok (ks:=[]) Try.func44 (by kernel_rfl)) fun a=>g24_run a
@[simp] theorem g24_app (y0):g24_r [(.str y0)] = (impl_DecodeSuper y0).map g24_O :=
  RlO_app (enc:=g24_E) (by intro a b h; simp [g24_E,Prod.ext_iff] at h ⊢; simp [h]) y0
end
end Go.Proofs.TM
