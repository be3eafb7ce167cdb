/- Functions of the program, as functions of their data: written by program. -/
import Derived.Test.YtljphigfgffeeaaGreatDoorRH0
namespace Go.Proofs.TM
open Go Go.Proofs
set_option linter.unusedVariables false
set_option linter.unusedSimpArgs false
set_option maxHeartbeats 1000000
attribute [-simp] Option.map_bind strV_some
attribute [simp] guardOn_bool sA_bslice Function.comp_def
noncomputable section
/-! spec.l12Get -/
def g106_tf:TFn:=⟨(sq [mk 4 (.c (.str []))] [0,1] (.seq (sq [mo 7 0,nk 8 7,fa 9 11 8,ld 10 9,mo 11 1,ca 12 99 [.t 10,.t 11],mo 5 12] [0,1,5] (sq [mo 13 5,bn 14 .geq (.t 13) (ki 0)] [0,1,5,14] (.cond (.t 14) (.seq (.ops [mo 15 0,nk 16 15,fa 17 11 16,ld 18 17,mo 19 5,ia 20 2 18 19,fa 21 1 20,ld 22 21,mo 4 22]) (.keep (kp [(4,0)] [] 0) .ret)) .skip))) (.trim [0,1] (.seq (sq [mo 23 0,nk 24 23,fa 25 10 24,ld 26 25,mo 27 1,ca 28 99 [.t 26,.t 27],mo 6 28] [0,1,6] (sq [mo 29 6,bn 30 .geq (.t 29) (ki 0)] [0,1,6,30] (.cond (.t 30) (.seq (.ops [mo 31 0,nk 32 31,fa 33 10 32,ld 34 33,mo 35 6,ia 36 2 34 35,fa 37 1 36,ld 38 37,mo 4 38]) (.keep (kp [(4,0)] [] 0) .ret)) .skip))) (.trim [0,1] (.seq (.ops [mo 39 0,nk 40 39,fa 41 0 40,mo 42 1,ca 43 100 [.t 41,.t 42],mo 4 43]) (.keep (kp [(4,0)] [] 0) .ret))))))),[.t 4]⟩
abbrev g106_S:=Sys.on [(99,g88_r),(100,g89_r)] []
def spec_l12Get (a_p:K1) (a_k:Int):Option (Str):=(spec_l11Find a_p.2.2.2.2.2 a_k).bind fun r1=>if r1 ≥ 0 then if 0 ≤ r1 then (a_p.2.2.2.2.2[(r1).toNat]?).bind fun x2=>some x2.2 else none else (spec_l11Find a_p.2.2.2.2.1 a_k).bind fun r3=>if r3 ≥ 0 then if 0 ≤ r3 then (a_p.2.2.2.2.1[(r3).toNat]?).bind fun x4=>some x4.2 else none else (spec_l09Read a_p.1 a_k).bind fun r5=>some r5
@[simp] def g106_O:Str → TV × List Blk:=fun r=>((.str r),[])
def g106_E (a:K1 × Int × List TV):List TV:=[(.vp ((.vs (rows a.1.1.1))::(.vs (rows a.1.1.2.1))::(.int .i64 a.1.1.2.2.1)::(.bool a.1.1.2.2.2)::(.int .i64 a.1.2.1.1)::(.int .i64 a.1.2.1.2.1)::(.int .i64 a.1.2.1.2.2.1)::(.int .i64 a.1.2.1.2.2.2)::(.int .i64 a.1.2.2.1)::(.int .i64 a.1.2.2.2.1)::(.vs (rows a.1.2.2.2.2.1))::(.vs (rows a.1.2.2.2.2.2))::a.2.2)),(.int .i64 a.2.1)]
theorem g106_run (a_p:K1) (a_k:Int) (q0:List TV):callFn (X g106_S) g106_tf (g106_E (a_p,a_k,q0)) [] = (spec_l12Get a_p a_k).map g106_O:=by
  rw [callFn_eq]
  simp (maxSteps:=2000000) (maxDischargeDepth:=8) -implicitDefEqProofs [g106_tf,spec_l12Get,g106_E] <;> (try simp only [map_to_bind,some_elim,g106_O])
def g106_r:Rule:=RlO g106_E (fun a=>spec_l12Get a.1 a.2.1) g106_O
theorem g106_ok:RuleOk Tryz.prog 60 g106_r:=ok_rlo (S:=g106_S) (tf:=g106_tf) (SysOk.on ⟨g88_ok,g89_ok,trivial⟩ trivial) (trE_ok (ks:=[]) Tryz.func60 (by kernel_rfl)) fun a=>g106_run a.1 a.2.1 a.2.2
@[simp] theorem g106_app (y0 y1 y2 y3 y4 y5 y6 y7 y8 y9 y10 y11 y12)(q0:List TV):g106_r [(.vp ((.vs (rows y0))::(.vs (rows y1))::(.int .i64 y2)::(.bool y3)::(.int .i64 y4)::(.int .i64 y5)::(.int .i64 y6)::(.int .i64 y7)::(.int .i64 y8)::(.int .i64 y9)::(.vs (rows y10))::(.vs (rows y11))::q0)),(.int .i64 y12)] = (spec_l12Get (((y0,y1,y2,y3),(y4,y5,y6,y7),y8,y9,y10,y11)) y12).map g106_O :=
  RlO_app (enc:=g106_E) (by intro a b h; simp [g106_E,Prod.ext_iff] at h ⊢; simp [h]) (((y0,y1,y2,y3),(y4,y5,y6,y7),y8,y9,y10,y11),y12,q0)
/-! spec.l13Area -/
def g90_tf:TFn:=⟨(sq [mk 2 (.c (.str []))] [0] (.seq (.ops [mo 3 0,mo 4 0,nk 5 4,fa 6 4 5,ln 7 4 6,ca 8 94 [.t 7],ca 9 60 [.t 3,.t 8],mo 2 9]) (.keep (kp [(2,0)] [] 0) .ret))),[.t 2]⟩
abbrev g90_S:=Sys.on [(94,g85_r),(60,g106_r)] []
def spec_l13Area (a_p:K1):Option (Str):=(spec_l10Area a_p.2.1).bind fun r1=>(spec_l12Get a_p r1).bind fun r2=>some r2
@[simp] def g90_O:Str → TV × List Blk:=fun r=>((.str r),[])
def g90_E (a:K1 × List TV):List TV:=[(.vp ((.vs (rows a.1.1.1))::(.vs (rows a.1.1.2.1))::(.int .i64 a.1.1.2.2.1)::(.bool a.1.1.2.2.2)::(.int .i64 a.1.2.1.1)::(.int .i64 a.1.2.1.2.1)::(.int .i64 a.1.2.1.2.2.1)::(.int .i64 a.1.2.1.2.2.2)::(.int .i64 a.1.2.2.1)::(.int .i64 a.1.2.2.2.1)::(.vs (rows a.1.2.2.2.2.1))::(.vs (rows a.1.2.2.2.2.2))::a.2))]
theorem g90_run (a_p:K1) (q0:List TV):callFn (X g90_S) g90_tf (g90_E (a_p,q0)) [] = (spec_l13Area a_p).map g90_O:=by
  rw [callFn_eq]
  simp (maxSteps:=2000000) (maxDischargeDepth:=8) -implicitDefEqProofs [g90_tf,spec_l13Area,g90_E] <;> (try simp only [map_to_bind,some_elim,g90_O])
def g90_r:Rule:=RlO g90_E (fun a=>spec_l13Area a.1) g90_O
theorem g90_ok:RuleOk Tryz.prog 98 g90_r:=ok_rlo (S:=g90_S) (tf:=g90_tf) (SysOk.on ⟨g85_ok,g106_ok,trivial⟩ trivial) (trE_ok (ks:=[]) Tryz.func98 (by kernel_rfl)) fun a=>g90_run a.1 a.2
@[simp] theorem g90_app (y0 y1 y2 y3 y4 y5 y6 y7 y8 y9 y10 y11)(q0:List TV):g90_r [(.vp ((.vs (rows y0))::(.vs (rows y1))::(.int .i64 y2)::(.bool y3)::(.int .i64 y4)::(.int .i64 y5)::(.int .i64 y6)::(.int .i64 y7)::(.int .i64 y8)::(.int .i64 y9)::(.vs (rows y10))::(.vs (rows y11))::q0))] = (spec_l13Area (((y0,y1,y2,y3),(y4,y5,y6,y7),y8,y9,y10,y11))).map g90_O :=
  RlO_app (enc:=g90_E) (by intro a b h; simp [g90_E,Prod.ext_iff] at h ⊢; simp [h]) (((y0,y1,y2,y3),(y4,y5,y6,y7),y8,y9,y10,y11),q0)
/-! spec.l13Bit -/
def g107_tf:TFn:=⟨(sq [mk 4 (kb false)] [0,1] (.seq (.ops [mo 5 0,mo 6 1,bn 7 .quo (.t 6) (ki 8),bn 8 .add (ki 4) (.t 7),oo 9 (.index (.t 5) (.t 8)),mo 10 1,bn 11 .rem (.t 10) (ki 8),oo 12 (.conv (.toInt .u64) (.t 11)),bn 13 .shr (.t 9) (.t 12),oo 14 (.bin .num .and (.t 13) (.c (.int .u8 1))),oo 15 (.bin .num .eql (.t 14) (.c (.int .u8 1))),mo 4 15]) (.keep (kp [(4,0)] [] 0) .ret))),[.t 4]⟩
abbrev g107_S:=Sys.on [] []
def spec_l13Bit (a_area:Str) (a_k:Int):Option (Bool):=if 0 ≤ (IntKind.i64.wrap (4 + (IntKind.i64.wrap (Int.tdiv a_k 8)))) then (a_area[((IntKind.i64.wrap (4 + (IntKind.i64.wrap (Int.tdiv a_k 8))))).toNat]?).bind fun (b1:UInt8)=>if (IntKind.u64.wrap ((Int.tmod a_k 8))) < 0 then none else some ((decide ((bitV .and .u8 ((shrV .u8 ((b1.toNat:Int)) ((IntKind.u64.wrap ((Int.tmod a_k 8)))))) 1) = 1))) else none
@[simp] def g107_O:Bool → TV × List Blk:=fun r=>((.bool r),[])
def g107_E (a:Str × Int):List TV:=[(.str a.1),(.int .i64 a.2)]
theorem g107_run (a_area:Str) (a_k:Int) :callFn (X g107_S) g107_tf (g107_E (a_area,a_k)) [] = (spec_l13Bit a_area a_k).map g107_O:=by
  rw [callFn_eq]
  simp (maxSteps:=2000000) (maxDischargeDepth:=8) -implicitDefEqProofs [g107_tf,spec_l13Bit,g107_E] <;> (try simp only [map_to_bind,some_elim,g107_O])
def g107_r:Rule:=RlO g107_E (fun a=>spec_l13Bit a.1 a.2) g107_O
theorem g107_ok:RuleOk Tryz.prog 97 g107_r:=ok_rlo (S:=g107_S) (tf:=g107_tf) (SysOk.on trivial trivial) (trE_ok (ks:=[]) Tryz.func97 (by kernel_rfl)) fun a=>g107_run a.1 a.2
@[simp] theorem g107_app (y0 y1):g107_r [(.str y0),(.int .i64 y1)] = (spec_l13Bit y0 y1).map g107_O :=
  RlO_app (enc:=g107_E) (by intro a b h; simp [g107_E,Prod.ext_iff] at h ⊢; simp [h]) (y0,y1)
/-! spec.l14Used -/
def g91_tf:TFn:=⟨(sq [mk 4 (kb false)] [0,1] (.seq (.after (.ops [mo 5 0,mo 6 1,ca 7 96 [.t 5,.t 6,ki 1],mo 8 7,⟨(some 9),(some (8,true)),(.mv (.t 0))⟩,⟨(some 10),(some (8,true)),(.call 98 [.t 9])⟩,⟨(some 11),(some (8,true)),(.mv (.t 1))⟩,⟨(some 12),(some (8,true)),(.call 97 [.t 10,.t 11])⟩,pk 13 (.t 8) (.t 12) (kb false),mo 4 13]) (kp [(4,0)] [] 0)) (.keep (kp [(4,0)] [] 0) .ret))),[.t 4]⟩
abbrev g91_S:=Sys.on [(96,g87_r),(98,g90_r),(97,g107_r)] []
def spec_l14Used (a_p:K1) (a_k:Int):Option (Bool):=(spec_l13Data a_p a_k 1).bind fun r1=>if r1 = true then (spec_l13Area a_p).bind fun r2=>(spec_l13Bit r2 a_k).bind fun r3=>some r3 else some false
@[simp] def g91_O:Bool → TV × List Blk:=fun r=>((.bool r),[])
def g91_E (a:K1 × Int × List TV):List TV:=[(.vp ((.vs (rows a.1.1.1))::(.vs (rows a.1.1.2.1))::(.int .i64 a.1.1.2.2.1)::(.bool a.1.1.2.2.2)::(.int .i64 a.1.2.1.1)::(.int .i64 a.1.2.1.2.1)::(.int .i64 a.1.2.1.2.2.1)::(.int .i64 a.1.2.1.2.2.2)::(.int .i64 a.1.2.2.1)::(.int .i64 a.1.2.2.2.1)::(.vs (rows a.1.2.2.2.2.1))::(.vs (rows a.1.2.2.2.2.2))::a.2.2)),(.int .i64 a.2.1)]
theorem g91_run (a_p:K1) (a_k:Int) (q0:List TV):callFn (X g91_S) g91_tf (g91_E (a_p,a_k,q0)) [] = (spec_l14Used a_p a_k).map g91_O:=by
  rw [callFn_eq]
  simp (maxSteps:=2000000) (maxDischargeDepth:=8) -implicitDefEqProofs [g91_tf,spec_l14Used,g91_E] <;> (try simp only [map_to_bind,some_elim,g91_O])
def g91_r:Rule:=RlO g91_E (fun a=>spec_l14Used a.1 a.2.1) g91_O
theorem g91_ok:RuleOk Tryz.prog 58 g91_r:=ok_rlo (S:=g91_S) (tf:=g91_tf) (SysOk.on ⟨g87_ok,g90_ok,g107_ok,trivial⟩ trivial) (trE_ok (ks:=[]) Tryz.func58 (by kernel_rfl)) fun a=>g91_run a.1 a.2.1 a.2.2
@[simp] theorem g91_app (y0 y1 y2 y3 y4 y5 y6 y7 y8 y9 y10 y11 y12)(q0:List TV):g91_r [(.vp ((.vs (rows y0))::(.vs (rows y1))::(.int .i64 y2)::(.bool y3)::(.int .i64 y4)::(.int .i64 y5)::(.int .i64 y6)::(.int .i64 y7)::(.int .i64 y8)::(.int .i64 y9)::(.vs (rows y10))::(.vs (rows y11))::q0)),(.int .i64 y12)] = (spec_l14Used (((y0,y1,y2,y3),(y4,y5,y6,y7),y8,y9,y10,y11)) y12).map g91_O :=
  RlO_app (enc:=g91_E) (by intro a b h; simp [g91_E,Prod.ext_iff] at h ⊢; simp [h]) (((y0,y1,y2,y3),(y4,y5,y6,y7),y8,y9,y10,y11),y12,q0)
/-! spec.l00Has -/
def g108l1_cb:TC:=(.seq (sq [mo 6 5,mo 7 0,le 8 7,bn 9 .lss (.t 6) (.t 8)] [0,1,5,9] (.cond (.t 9) .skip (.keep (kp [] [] 0) (.exit 0)))) (.trim [0,1,5] (.seq (.block 1 (sq [mo 12 0,mo 13 5,ia 14 1 12 13,ld 15 14,mo 16 1,bn 17 .eql (.t 15) (.t 16)] [0,1,5,17] (.cond (.t 17) (.seq (.ops [mk 4 (kb true)]) (.keep (kp [(4,0)] [] 0) .ret)) .skip))) (.trim [0,1,5] (.after (.ops [mo 10 5,bn 11 .add (.t 10) (ki 1),mo 5 11]) (kp [(0,0),(1,0),(5,0)] [] 0))))))
def g108l1_c:TC:=.loop [0,1,5] g108l1_cb
def g108_tf:TFn:=⟨(sq [mk 4 (kb false)] [0,1] (.seq (sq [mk 5 (ki 0)] [0,1,5] (.block 0 (.keep (kp [(0,0),(1,0),(5,0)] [] 0) g108l1_c))) (.trim [] (.seq (.ops [mk 4 (kb false)]) (.keep (kp [(4,0)] [] 0) .ret))))),[.t 4]⟩
abbrev g108_S:=Sys.on [] []
@[reducible,simp] def g108l1_F:((Unit) ⊕ (Bool)) → Out:=(Sum.elim (fun t=>(.ext 0,[],[])) (fun t=>(.ret,[(4,(.bool t))],[])))
def spec_l00Has_l1_b (v1:List Int) (v2:Int) (v3:Int):Option ((Int) ⊕ ((Unit) ⊕ (Bool))):=if v3 < (v1.length:Int) then if 0 ≤ v3 then (v1[(v3).toNat]?).bind fun x4=>if x4 = v2 then some (.inr (.inr true)) else some (.inl ((IntKind.i64.wrap (v3 + 1)))) else none else some (.inr (.inl ()))
theorem g108l1_b_eq  (v1:List Int) (v2:Int) (v3:Int):X g108_S g108l1_cb (keepEnv [0,1,5] [(0,(.vs (rows v1))),(1,(.int .i64 v2)),(5,(.int .i64 v3))]) [] = (spec_l00Has_l1_b v1 v2 v3).map (Sum.elim (fun s=>(TX.nrm,[(0,(.vs (rows v1))),(1,(.int .i64 v2)),(5,(.int .i64 s))],[])) g108l1_F):=by
  simp (maxSteps:=2000000) (maxDischargeDepth:=8) -implicitDefEqProofs [g108l1_cb,spec_l00Has_l1_b] <;> (try simp only [map_to_bind,some_elim,g108l1_F])
def spec_l00Has_l1 (v1:List Int) (v2:Int) (s:Int):Option ((Unit) ⊕ (Bool)):=loopO (fun s=>spec_l00Has_l1_b v1 v2 s) s
@[simp] theorem g108l1_eq (y0 y1 y2):X g108_S g108l1_c [(0,(.vs (rows y0))),(1,(.int .i64 y1)),(5,(.int .i64 y2))] [] = (spec_l00Has_l1 y0 y1 y2).map g108l1_F:=by
  exact loop_X _ _ _ _ (by intro r; first | (simp; done) | (rcases r with r | r <;> simp; done) | (rcases r with r | r | r <;> simp; done) | (rcases r with r | r | r | r <;> simp)) (fun s=>g108l1_b_eq  y0 y1 s) y2
def spec_l00Has (a_list:List Int) (a_n:Int):Option (Bool):=(spec_l00Has_l1 a_list a_n 0).bind fun r5=>Sum.elim (fun u6=>some false) (fun u7=>some u7) r5
@[simp] def g108_O:Bool → TV × List Blk:=fun r=>((.bool r),[])
def g108_E (a:List Int × Int):List TV:=[(.vs (rows a.1)),(.int .i64 a.2)]
theorem g108_run (a_list:List Int) (a_n:Int) :callFn (X g108_S) g108_tf (g108_E (a_list,a_n)) [] = (spec_l00Has a_list a_n).map g108_O:=by
  rw [callFn_eq]
  simp (maxSteps:=2000000) (maxDischargeDepth:=8) -implicitDefEqProofs [g108_tf,spec_l00Has,g108_E] <;> (try simp only [map_to_bind,some_elim,g108_O])
def g108_r:Rule:=RlO g108_E (fun a=>spec_l00Has a.1 a.2) g108_O
theorem g108_ok:RuleOk Tryz.prog 59 g108_r:=ok_rlo (S:=g108_S) (tf:=g108_tf) (SysOk.on trivial trivial) (trE_ok (ks:=[[0,1,5]]) Tryz.func59 (by kernel_rfl)) fun a=>g108_run a.1 a.2
@[simp] theorem g108_app (y0 y1):g108_r [(.vs (rows y0)),(.int .i64 y1)] = (spec_l00Has y0 y1).map g108_O :=
  RlO_app (enc:=g108_E) (by intro a b h; simp [g108_E,Prod.ext_iff] at h ⊢; simp [h]) (y0,y1)
@[simp] theorem g108_app_a_list (y0):g108_r [(.vs []),(.int .i64 y0)] = (spec_l00Has (([]:List Int)) y0).map g108_O :=
  g108_app ([]:List Int) y0 
/-! spec.l01Within -/
def g63_tf:TFn:=⟨(sq [mk 6 (kb false)] [0,1,2] (.seq (.after (.ops [mo 7 2,ca 8 54 [.t 7,ki 1,ki 8],mo 9 8,⟨(some 10),(some (9,true)),(.mv (.t 1))⟩,⟨(some 11),(some (9,true)),(.mv (.t 0))⟩,⟨(some 12),(some (9,true)),(.len true (.t 11))⟩,⟨(some 13),(some (9,true)),(.call 54 [.t 10,ki 0,.t 12])⟩,pk 14 (.t 9) (.t 13) (kb false),mo 15 14,⟨(some 16),(some (15,true)),(.mv (.t 2))⟩,⟨(some 17),(some (15,true)),(.mv (.t 0))⟩,⟨(some 18),(some (15,true)),(.len true (.t 17))⟩,⟨(some 19),(some (15,true)),(.mv (.t 1))⟩,⟨(some 20),(some (15,true)),(.bin .num .sub (.t 18) (.t 19))⟩,⟨(some 21),(some (15,true)),(.bin .num .leq (.t 16) (.t 20))⟩,pk 22 (.t 15) (.t 21) (kb false),mo 6 22]) (kp [(6,0)] [] 0)) (.keep (kp [(6,0)] [] 0) .ret))),[.t 6]⟩
abbrev g63_S:=Sys.on [(54,g117_r)] []
def spec_l01Within (a_s:Str) (a_at:Int) (a_size:Int):Option (Bool):=(spec_l00In a_size 1 8).bind fun r1=>if r1 = true then (spec_l00In a_at 0 ((a_s.length:Int))).bind fun r2=>if r2 = true then some ((decide (a_size ≤ (IntKind.i64.wrap ((a_s.length:Int) - a_at))))) else some false else some false
@[simp] def g63_O:Bool → TV × List Blk:=fun r=>((.bool r),[])
def g63_E (a:Str × Int × Int):List TV:=[(.str a.1),(.int .i64 a.2.1),(.int .i64 a.2.2)]
theorem g63_run (a_s:Str) (a_at:Int) (a_size:Int) :callFn (X g63_S) g63_tf (g63_E (a_s,a_at,a_size)) [] = (spec_l01Within a_s a_at a_size).map g63_O:=by
  rw [callFn_eq]
  simp (maxSteps:=2000000) (maxDischargeDepth:=8) -implicitDefEqProofs [g63_tf,spec_l01Within,g63_E] <;> (try simp only [map_to_bind,some_elim,g63_O])
def g63_r:Rule:=RlO g63_E (fun a=>spec_l01Within a.1 a.2.1 a.2.2) g63_O
theorem g63_ok:RuleOk Tryz.prog 101 g63_r:=ok_rlo (S:=g63_S) (tf:=g63_tf) (SysOk.on ⟨g117_ok,trivial⟩ trivial) (trE_ok (ks:=[]) Tryz.func101 (by kernel_rfl)) fun a=>g63_run a.1 a.2.1 a.2.2
@[simp] theorem g63_app (y0 y1 y2):g63_r [(.str y0),(.int .i64 y1),(.int .i64 y2)] = (spec_l01Within y0 y1 y2).map g63_O :=
  RlO_app (enc:=g63_E) (by intro a b h; simp [g63_E,Prod.ext_iff] at h ⊢; simp [h]) (y0,y1,y2)
/-! spec.l01GetUint -/
def g47l2_cb:TC:=(.seq (sq [mo 28 9,bn 29 .geq (.t 28) (ki 0)] [0,1,8,9,29] (.cond (.t 29) .skip (.keep (kp [(8,0)] [] 0) (.exit 0)))) (.trim [0,1,8,9] (.seq (.block 1 (.ops [mo 32 8,bn 33 .mul (.t 32) (ki 256),mo 34 0,mo 35 1,mo 36 9,bn 37 .add (.t 35) (.t 36),oo 38 (.index (.t 34) (.t 37)),oo 39 (.conv (.toInt .i64) (.t 38)),bn 40 .add (.t 33) (.t 39),mo 8 40])) (.trim [0,1,8,9] (.after (.ops [mo 30 9,bn 31 .sub (.t 30) (ki 1),mo 9 31]) (kp [(0,0),(1,0),(8,0),(9,0)] [] 0))))))
def g47l2_c:TC:=.loop [0,1,8,9] g47l2_cb
def g47p1_c:TC:=(sq [mk 8 (ki 0)] [0,1,2,8] (.seq (sq [mo 26 2,bn 27 .sub (.t 26) (ki 1),mo 9 27] [0,1,8,9] (.block 0 (.keep (kp [(0,0),(1,0),(8,0),(9,0)] [] 0) g47l2_c))) (.trim [8] (.seq (.ops [mo 41 8,mo 6 41,mk 7 (kb true)]) (.keep (kp [(6,0),(7,0)] [] 0) .ret)))))
def g47_tf:TFn:=⟨(sq [mk 6 (ki 0),mk 7 (kb false)] [0,1,2] (.seq (sq [mo 10 0,mo 11 1,mo 12 2,ca 13 101 [.t 10,.t 11,.t 12],nt 14 13,mo 15 14,⟨(some 16),(some (15,false)),(.mv (.t 2))⟩,⟨(some 17),(some (15,false)),(.bin .num .eql (.t 16) (ki 8))⟩,⟨(some 18),(some (15,false)),(.mv (.t 17))⟩,⟨(some 19),(some (18,true)),(.mv (.t 0))⟩,⟨(some 20),(some (18,true)),(.mv (.t 1))⟩,⟨(some 21),(some (18,true)),(.bin .num .add (.t 20) (ki 7))⟩,⟨(some 22),(some (18,true)),(.index (.t 19) (.t 21))⟩,⟨(some 23),(some (18,true)),(.bin .num .gtr (.t 22) (.c (.int .u8 127)))⟩,⟨(some 24),(some (15,false)),(.pick (.t 18) (.t 23) (kb false))⟩,pk 25 (.t 15) (kb true) (.t 24)] [0,1,2,25] (.cond (.t 25) (.seq (.ops [mk 6 (ki 0),mk 7 (kb false)]) (.keep (kp [(6,0),(7,0)] [] 0) .ret)) (.keep (kp [(0,0),(1,0),(2,0)] [] 0) .skip))) (.trim [0,1,2] g47p1_c))),[.t 6,.t 7]⟩
abbrev g47_S:=Sys.on [(101,g63_r)] []
@[reducible,simp] def g47l2_F:Int → Out:=(fun t=>(.ext 0,[(8,(.int .i64 t))],[]))
def spec_l01GetUint_l2_b (v6:Str) (v7:Int) (v8:Int) (v9:Int):Option ((Int × Int) ⊕ (Int)):=if v9 ≥ 0 then if 0 ≤ (IntKind.i64.wrap (v7 + v9)) then (v6[((IntKind.i64.wrap (v7 + v9))).toNat]?).bind fun (b10:UInt8)=>some (.inl ((IntKind.i64.wrap ((IntKind.i64.wrap (v8 * 256)) + (IntKind.i64.wrap ((b10.toNat:Int))))),(IntKind.i64.wrap (v9 - 1)))) else none else some (.inr v8)
theorem g47l2_b_eq  (v6:Str) (v7:Int) (v8:Int) (v9:Int):X g47_S g47l2_cb (keepEnv [0,1,8,9] [(0,(.str v6)),(1,(.int .i64 v7)),(8,(.int .i64 v8)),(9,(.int .i64 v9))]) [] = (spec_l01GetUint_l2_b v6 v7 v8 v9).map (Sum.elim (fun s=>(TX.nrm,[(0,(.str v6)),(1,(.int .i64 v7)),(8,(.int .i64 s.1)),(9,(.int .i64 s.2))],[])) g47l2_F):=by
  simp (maxSteps:=2000000) (maxDischargeDepth:=8) -implicitDefEqProofs [g47l2_cb,spec_l01GetUint_l2_b] <;> (try simp only [map_to_bind,some_elim,g47l2_F])
def spec_l01GetUint_l2 (v6:Str) (v7:Int) (s:Int × Int):Option (Int):=loopO (fun s=>spec_l01GetUint_l2_b v6 v7 s.1 s.2) s
@[simp] theorem g47l2_eq (y0 y1 y2 y3):X g47_S g47l2_c [(0,(.str y0)),(1,(.int .i64 y1)),(8,(.int .i64 y2)),(9,(.int .i64 y3))] [] = (spec_l01GetUint_l2 y0 y1 (y2,y3)).map g47l2_F:=by
  exact loop_X _ _ _ _ (by intro r; first | (simp; done) | (rcases r with r | r <;> simp; done) | (rcases r with r | r | r <;> simp; done) | (rcases r with r | r | r | r <;> simp)) (fun s=>g47l2_b_eq  y0 y1 s.1 s.2) (y2,y3)
@[reducible,simp] def g47p1_F:(Int × Bool) → Out:=(fun t=>(.ret,[(6,(.int .i64 t.1)),(7,(.bool t.2))],[]))
def spec_l01GetUint_p1 (v3:Str) (v4:Int) (v5:Int):Option (Int × Bool):=(spec_l01GetUint_l2 v3 v4 ((0,(IntKind.i64.wrap (v5 - 1))))).bind fun r11=>some ((r11,true))
@[simp] theorem g47p1_eq (y0 y1 y2):X g47_S g47p1_c [(0,(.str y0)),(1,(.int .i64 y1)),(2,(.int .i64 y2))] [] = (spec_l01GetUint_p1 y0 y1 y2).map g47p1_F:=by
  simp (maxSteps:=2000000) (maxDischargeDepth:=8) -implicitDefEqProofs [g47p1_c,spec_l01GetUint_p1] <;> (try simp only [map_to_bind,some_elim,g47p1_F])
def spec_l01GetUint (a_s:Str) (a_at:Int) (a_size:Int):Option (Int × Bool):=(spec_l01Within a_s a_at a_size).bind fun r1=>if ¬(r1 = true) then some (0,false) else if a_size = 8 then if 0 ≤ (IntKind.i64.wrap (a_at + 7)) then (a_s[((IntKind.i64.wrap (a_at + 7))).toNat]?).bind fun (b2:UInt8)=>if (b2.toNat:Int) > 127 then some (0,false) else (spec_l01GetUint_p1 a_s a_at a_size).bind fun r12=>some (r12.1,r12.2) else none else (spec_l01GetUint_p1 a_s a_at a_size).bind fun r13=>some (r13.1,r13.2)
@[simp] def g47_O:(Int × Bool) → TV × List Blk:=fun r=>((.tup [(.int .i64 r.1),(.bool r.2)]),[])
def g47_E (a:Str × Int × Int):List TV:=[(.str a.1),(.int .i64 a.2.1),(.int .i64 a.2.2)]
theorem g47_run (a_s:Str) (a_at:Int) (a_size:Int) :callFn (X g47_S) g47_tf (g47_E (a_s,a_at,a_size)) [] = (spec_l01GetUint a_s a_at a_size).map g47_O:=by
  rw [callFn_eq]
  simp (maxSteps:=2000000) (maxDischargeDepth:=8) -implicitDefEqProofs [g47_tf,spec_l01GetUint,g47_E] <;> (try simp only [map_to_bind,some_elim,g47_O])
def g47_r:Rule:=RlO g47_E (fun a=>spec_l01GetUint a.1 a.2.1 a.2.2) g47_O
theorem g47_ok:RuleOk Tryz.prog 61 g47_r:=ok_rlo (S:=g47_S) (tf:=g47_tf) (SysOk.on ⟨g63_ok,trivial⟩ trivial) (trE_ok (ks:=[[0,1,8,9]]) Tryz.func61 (by kernel_rfl)) fun a=>g47_run a.1 a.2.1 a.2.2
@[simp] theorem g47_app (y0 y1 y2):g47_r [(.str y0),(.int .i64 y1),(.int .i64 y2)] = (spec_l01GetUint y0 y1 y2).map g47_O :=
  RlO_app (enc:=g47_E) (by intro a b h; simp [g47_E,Prod.ext_iff] at h ⊢; simp [h]) (y0,y1,y2)
/-! spec.l00Max -/
def g109_tf:TFn:=⟨(sq [mk 4 (ki 0)] [0,1] (.seq (sq [mo 5 0,mo 6 1,bn 7 .gtr (.t 5) (.t 6)] [0,1,7] (.cond (.t 7) (.seq (.ops [mo 8 0,mo 4 8]) (.keep (kp [(4,0)] [] 0) .ret)) .skip)) (.trim [1] (.seq (.ops [mo 9 1,mo 4 9]) (.keep (kp [(4,0)] [] 0) .ret))))),[.t 4]⟩
abbrev g109_S:=Sys.on [] []
def spec_l00Max (a_a:Int) (a_b:Int):Option (Int):=if a_a > a_b then some a_a else some a_b
@[simp] def g109_O:Int → TV × List Blk:=fun r=>((.int .i64 r),[])
def g109_E (a:Int × Int):List TV:=[(.int .i64 a.1),(.int .i64 a.2)]
theorem g109_run (a_a:Int) (a_b:Int) :callFn (X g109_S) g109_tf (g109_E (a_a,a_b)) [] = (spec_l00Max a_a a_b).map g109_O:=by
  rw [callFn_eq]
  simp (maxSteps:=2000000) (maxDischargeDepth:=8) -implicitDefEqProofs [g109_tf,spec_l00Max,g109_E] <;> (try simp only [map_to_bind,some_elim,g109_O])
def g109_r:Rule:=RlO g109_E (fun a=>spec_l00Max a.1 a.2) g109_O
theorem g109_ok:RuleOk Tryz.prog 102 g109_r:=ok_rlo (S:=g109_S) (tf:=g109_tf) (SysOk.on trivial trivial) (trE_ok (ks:=[]) Tryz.func102 (by kernel_rfl)) fun a=>g109_run a.1 a.2
@[simp] theorem g109_app (y0 y1):g109_r [(.int .i64 y0),(.int .i64 y1)] = (spec_l00Max y0 y1).map g109_O :=
  RlO_app (enc:=g109_E) (by intro a b h; simp [g109_E,Prod.ext_iff] at h ⊢; simp [h]) (y0,y1)
/-! spec.l03Zeros -/
def g76_tf:TFn:=⟨(sq [mk 2 (.c (.str []))] [0] (.seq (.ops [mo 3 0,ca 4 102 [.t 3,ki 0],oo 5 (.mkslice 1 [(.int .u8 0)] (.t 4) (.t 4)),oo 6 (.conv .toStr (.t 5)),mo 2 6]) (.keep (kp [(2,0)] [] 0) .ret))),[.t 2]⟩
abbrev g76_S:=Sys.on [(102,g109_r)] []
def spec_l03Zeros (a_n:Int):Option (Str):=(spec_l00Max a_n 0).bind fun r1=>(mkL 1 r1 r1 ((⟨0⟩:Bt):Bt)).bind fun l2=>some ((l2.map Bt.v))
@[simp] def g76_O:Str → TV × List Blk:=fun r=>((.str r),[])
def g76_E (a:Int):List TV:=[(.int .i64 a)]
theorem g76_run (a_n:Int) :callFn (X g76_S) g76_tf (g76_E a_n) [] = (spec_l03Zeros a_n).map g76_O:=by
  rw [callFn_eq]
  simp (maxSteps:=2000000) (maxDischargeDepth:=8) -implicitDefEqProofs [g76_tf,spec_l03Zeros,g76_E,mksliceV_typed (z:=((⟨0⟩:Bt):Bt)) (zs:=[(.int .u8 0)]) rfl (by decide)] <;> (try simp only [map_to_bind,some_elim,g76_O])
def g76_r:Rule:=RlO g76_E (fun a=>spec_l03Zeros a) g76_O
theorem g76_ok:RuleOk Tryz.prog 62 g76_r:=ok_rlo (S:=g76_S) (tf:=g76_tf) (SysOk.on ⟨g109_ok,trivial⟩ trivial) (trE_ok (ks:=[]) Tryz.func62 (by kernel_rfl)) fun a=>g76_run a
@[simp] theorem g76_app (y0):g76_r [(.int .i64 y0)] = (spec_l03Zeros y0).map g76_O :=
  RlO_app (enc:=g76_E) (by intro a b h; simp [g76_E,Prod.ext_iff] at h ⊢; simp [h]) y0
/-! (*spec.l02Reader).byte -/
def g14_tf:TFn:=⟨(sq [mk 2 (ki 0)] [0] (.seq (.seq (.draw [([],mo 3 0),([0],nk 4 3),([0,1],fa 5 1 4),([0,1,2],ld 6 5),([],mo 7 0),([4],nk 8 7),([4,5],fa 9 0 8),([4,5,6],ld 10 9),([4,5,6,7],oo 11 (.len true (.t 10)))] [bn 12 .geq (.t 6) (.t 11)]) (.trim [0,12] (.cond (.t 12) (sq [mo 13 0,nk 14 13,fa 15 2 14,⟨none,none,(.store 1 (.t 15) (kb true))⟩] [] (.seq (.ops [mk 2 (ki 0)]) (.keep (kp [(2,0)] [(0,0)] 1) .ret))) .skip))) (.trim [0] (sq [mo 16 0,nk 17 16,fa 18 1 17,ld 19 18,bn 20 .add (.t 19) (ki 1),nk 21 16,fa 22 1 21,⟨none,none,(.store 1 (.t 22) (.t 20))⟩] [0] (.seq (.draw [([],mo 23 0),([0],nk 24 23),([0,1],fa 25 0 24),([0,1,2],ld 26 25),([],mo 27 0),([4],nk 28 27),([4,5],fa 29 1 28),([4,5,6],ld 30 29),([4,5,6,7],bn 31 .sub (.t 30) (ki 1))] [oo 32 (.index (.t 26) (.t 31)),oo 33 (.conv (.toInt .i64) (.t 32)),mo 2 33]) (.keep (kp [(2,0)] [(0,0)] 1) .ret)))))),[.t 2]⟩
abbrev g14_S:=Sys.on [] []
def spec_l02Reader_byte_o2b (a1:Str × Int × Bool):Option ((Str × Int × Bool) × Int):=if a1.2.1 ≥ (a1.1.length:Int) then some ((a1.1,a1.2.1,true),0) else if 0 ≤ (IntKind.i64.wrap ((IntKind.i64.wrap (a1.2.1 + 1)) - 1)) then (a1.1[((IntKind.i64.wrap ((IntKind.i64.wrap (a1.2.1 + 1)) - 1))).toNat]?).bind fun (b1:UInt8)=>some ((a1.1,(IntKind.i64.wrap (a1.2.1 + 1)),a1.2.2),(IntKind.i64.wrap ((b1.toNat:Int)))) else none
@[simp] def g14_O:((Str × Int × Bool) × Int) → TV × List Blk:=fun r=>((.int .i64 r.2),[(.live 3 [[(.str r.1.1),(.int .i64 r.1.2.1),(.bool r.1.2.2)]])])
abbrev g14_T:=(Str × Int × Bool)
def g14_E (a:g14_T):List TV:=[(.ptr 0 0 0)]
def g14_B (a:g14_T):List Blk:=[(.live 3 [[(.str a.1),(.int .i64 a.2.1),(.bool a.2.2)]])]
theorem g14_run (a1:Str × Int × Bool) :callFn (X g14_S) g14_tf (g14_E a1) (g14_B a1) = (spec_l02Reader_byte_o2b a1).map g14_O:=by
  rw [callFn_eq]
  simp (maxSteps:=2000000) (maxDischargeDepth:=8) -implicitDefEqProofs [g14_tf,spec_l02Reader_byte_o2b,g14_E,g14_B] <;> (try simp only [map_to_bind,some_elim,g14_O])
def g14_r:MRule:=RmO g14_E g14_B (fun a=>spec_l02Reader_byte_o2b a) g14_O
theorem g14_ok:MRuleOk Tryz.prog 103 1 g14_r:=ok_rmo (S:=g14_S) (tf:=g14_tf) (SysOk.on trivial trivial) (trE_ok (ks:=[[9],[9]]) Tryz.func103 (by kernel_rfl)) (by rfl) (fun _=>by simp [g14_B]) (fun _=>by simp) fun a=>g14_run a
@[simp] theorem g14_app (y0 y1 y2):g14_r [(.ptr 0 0 0)] [(.live 3 [[(.str y0),(.int .i64 y1),(.bool y2)]])] = (spec_l02Reader_byte_o2b ((y0,y1,y2))).map g14_O:=by
  exact RmO_app (enc:=g14_E) (encB:=g14_B) (by intro a b h h2; simp [g14_E,g14_B,Prod.ext_iff] at h h2 ⊢; simp [h,h2]) ((y0,y1,y2))
/-! (*spec.l02Reader).take -/
def g15_tf:TFn:=⟨(sq [mk 4 (.c (.str []))] [0,1] (.seq (.seq (.draw [([],mo 5 1),([0],bn 6 .lss (.t 5) (ki 0)),([0,1],mo 7 6),([0,1,2],⟨(some 8),(some (7,false)),(.mv (.t 1))⟩),([0,1,2],⟨(some 9),(some (7,false)),(.mv (.t 0))⟩),([0,1,2,4],⟨(some 10),(some (7,false)),(.nilchk (.t 9))⟩),([0,1,2,4,5],⟨(some 11),(some (7,false)),(.faddr 0 (.t 10))⟩),([0,1,2,4,5,6],⟨(some 12),(some (7,false)),(.load none (.t 11))⟩),([0,1,2,4,5,6,7],⟨(some 13),(some (7,false)),(.len true (.t 12))⟩),([0,1,2],⟨(some 14),(some (7,false)),(.mv (.t 0))⟩),([0,1,2,9],⟨(some 15),(some (7,false)),(.nilchk (.t 14))⟩),([0,1,2,9,10],⟨(some 16),(some (7,false)),(.faddr 1 (.t 15))⟩),([0,1,2,9,10,11],⟨(some 17),(some (7,false)),(.load none (.t 16))⟩),([0,1,2,4,5,6,7,8,9,10,11,12],⟨(some 18),(some (7,false)),(.bin .num .sub (.t 13) (.t 17))⟩)] [⟨(some 19),(some (7,false)),(.bin .num .gtr (.t 8) (.t 18))⟩,pk 20 (.t 7) (kb true) (.t 19)]) (.trim [0,1,20] (.cond (.t 20) (sq [mo 21 0,nk 22 21,fa 23 2 22,⟨none,none,(.store 1 (.t 23) (kb true))⟩] [] (.seq (.ops [mk 4 (.c (.str []))]) (.keep (kp [(4,0)] [(0,0)] 1) .ret))) .skip))) (.trim [0,1] (sq [mo 24 0,nk 25 24,fa 26 1 25,ld 27 26,mo 28 1,bn 29 .add (.t 27) (.t 28),nk 30 24,fa 31 1 30,⟨none,none,(.store 1 (.t 31) (.t 29))⟩] [0,1] (.seq (.draw [([],mo 32 0),([0],nk 33 32),([0,1],fa 34 0 33),([0,1,2],ld 35 34),([],mo 36 0),([4],nk 37 36),([4,5],fa 38 1 37),([4,5,6],ld 39 38),([],mo 40 1),([4,5,6,7,8],bn 41 .sub (.t 39) (.t 40)),([],mo 42 0),([10],nk 43 42),([10,11],fa 44 1 43),([10,11,12],ld 45 44)] [oo 46 (.sliceS (.t 35) (some (.t 41)) (some (.t 45))),mo 4 46]) (.keep (kp [(4,0)] [(0,0)] 1) .ret)))))),[.t 4]⟩
abbrev g15_S:=Sys.on [] []
def spec_l02Reader_take_oa0 (a1:Str × Int × Bool) (a2:Int):Option ((Str × Int × Bool) × Str):=if a2 < 0 then some ((a1.1,a1.2.1,true),([]:Str)) else if a2 > (IntKind.i64.wrap ((a1.1.length:Int) - a1.2.1)) then some ((a1.1,a1.2.1,true),([]:Str)) else (subL a1.1 (some ((IntKind.i64.wrap ((IntKind.i64.wrap (a1.2.1 + a2)) - a2)))) (some ((IntKind.i64.wrap (a1.2.1 + a2))))).bind fun s1=>some ((a1.1,(IntKind.i64.wrap (a1.2.1 + a2)),a1.2.2),s1)
@[simp] def g15_O:((Str × Int × Bool) × Str) → TV × List Blk:=fun r=>((.str r.2),[(.live 3 [[(.str r.1.1),(.int .i64 r.1.2.1),(.bool r.1.2.2)]])])
abbrev g15_T:=(Str × Int × Bool) × Int
def g15_E (a:g15_T):List TV:=[(.ptr 0 0 0),(.int .i64 a.2)]
def g15_B (a:g15_T):List Blk:=[(.live 3 [[(.str a.1.1),(.int .i64 a.1.2.1),(.bool a.1.2.2)]])]
theorem g15_run (a1:Str × Int × Bool) (a2:Int) :callFn (X g15_S) g15_tf (g15_E (a1,a2)) (g15_B (a1,a2)) = (spec_l02Reader_take_oa0 a1 a2).map g15_O:=by
  rw [callFn_eq]
  simp (maxSteps:=2000000) (maxDischargeDepth:=8) -implicitDefEqProofs [g15_tf,spec_l02Reader_take_oa0,g15_E,g15_B] <;> (try simp only [map_to_bind,some_elim,g15_O])
def g15_r:MRule:=RmO g15_E g15_B (fun a=>spec_l02Reader_take_oa0 a.1 a.2) g15_O
theorem g15_ok:MRuleOk Tryz.prog 104 1 g15_r:=ok_rmo (S:=g15_S) (tf:=g15_tf) (SysOk.on trivial trivial) (trE_ok (ks:=[[14],[14]]) Tryz.func104 (by kernel_rfl)) (by rfl) (fun _=>by simp [g15_B]) (fun _=>by simp) fun a=>g15_run a.1 a.2
@[simp] theorem g15_app (y0 y1 y2 y3):g15_r [(.ptr 0 0 0),(.int .i64 y3)] [(.live 3 [[(.str y0),(.int .i64 y1),(.bool y2)]])] = (spec_l02Reader_take_oa0 ((y0,y1,y2)) y3).map g15_O:=by
  exact RmO_app (enc:=g15_E) (encB:=g15_B) (by intro a b h h2; simp [g15_E,g15_B,Prod.ext_iff] at h h2 ⊢; simp [h,h2]) ((y0,y1,y2),y3)
/-! spec.l14Ok -/
def g120l1_cb:TC:=(.seq (sq [mo 21 3,fa 22 2 1,ld 23 22,le 24 23,bn 25 .lss (.t 21) (.t 24)] [1,3,25] (.cond (.t 25) .skip (.keep (kp [] [] 0) (.exit 0)))) (.trim [1,3] (.seq (.block 1 (sq [fa 28 2 1,ld 29 28,mo 30 3,ia 31 3 29 30,ln 32 3 31,oo 4 (.alloc [(.int .i64 0),(.int .i64 0),(.str [])]),⟨none,none,(.store 3 (.t 4) (.t 32))⟩] [1,3,4] (sq [fa 33 0 4,ld 34 33,ca 35 54 [.t 34,ki 1,ki 9],nt 36 35,mo 37 36,⟨(some 38),(some (37,false)),(.faddr 1 (.t 4))⟩,⟨(some 39),(some (37,false)),(.load none (.t 38))⟩,⟨(some 40),(some (37,false)),(.call 54 [.t 39,ki 0,ki 255])⟩,⟨(some 41),(some (37,false)),(.un .not (.t 40))⟩,pk 42 (.t 37) (kb true) (.t 41),mo 43 42,⟨(some 44),(some (43,false)),(.faddr 2 (.t 4))⟩,⟨(some 45),(some (43,false)),(.load none (.t 44))⟩,⟨(some 46),(some (43,false)),(.len true (.t 45))⟩,⟨(some 47),(some (43,false)),(.bin .num .gtr (.t 46) (ki 200))⟩,pk 48 (.t 43) (kb true) (.t 47)] [1,3,48] (.cond (.t 48) (.seq (.ops [mk 2 (kb false)]) (.keep (kp [(2,0)] [] 0) .ret)) .skip)))) (.trim [1,3] (.after (.ops [mo 26 3,bn 27 .add (.t 26) (ki 1),mo 3 27]) (kp [(1,0),(3,0)] [(0,0)] 0))))))
def g120l1_c:TC:=.loop [1,3] g120l1_cb
def g120_tf:TFn:=⟨(sq [bx 1 0,mk 2 (kb false)] [1] (.seq (sq [fa 5 0 1,ld 6 5,ca 7 54 [.t 6,ki 1,ki 3],nt 8 7,mo 9 8,⟨(some 10),(some (9,false)),(.faddr 1 (.t 1))⟩,⟨(some 11),(some (9,false)),(.load none (.t 10))⟩,⟨(some 12),(some (9,false)),(.call 54 [.t 11,ki 0,ki 1000])⟩,⟨(some 13),(some (9,false)),(.un .not (.t 12))⟩,pk 14 (.t 9) (kb true) (.t 13),mo 15 14,⟨(some 16),(some (15,false)),(.faddr 2 (.t 1))⟩,⟨(some 17),(some (15,false)),(.load none (.t 16))⟩,⟨(some 18),(some (15,false)),(.len false (.t 17))⟩,⟨(some 19),(some (15,false)),(.bin .num .gtr (.t 18) (ki 24))⟩,pk 20 (.t 15) (kb true) (.t 19)] [1,20] (.cond (.t 20) (.seq (.ops [mk 2 (kb false)]) (.keep (kp [(2,0)] [] 0) .ret)) .skip)) (.trim [1] (.seq (sq [mk 3 (ki 0)] [1,3] (.block 0 (.keep (kp [(1,0),(3,0)] [(0,0)] 0) g120l1_c))) (.trim [] (.seq (.ops [mk 2 (kb true)]) (.keep (kp [(2,0)] [] 0) .ret))))))),[.t 2]⟩
abbrev g120_S:=Sys.on [(54,g117_r)] []
@[reducible,simp] def g120l1_F:((Unit) ⊕ (Bool)) → Out:=(Sum.elim (fun t=>(.ext 0,[],[])) (fun t=>(.ret,[(2,(.bool t))],[])))
def spec_l14Ok_l1_b (v3:K2) (v4:Int):Option ((Int) ⊕ ((Unit) ⊕ (Bool))):=if v4 < (v3.2.2.length:Int) then if 0 ≤ v4 then (v3.2.2[(v4).toNat]?).bind fun x5=>(spec_l00In x5.1 1 9).bind fun r6=>if ¬(r6 = true) then some (.inr (.inr false)) else (spec_l00In x5.2.1 0 255).bind fun r7=>if ¬(r7 = true) then some (.inr (.inr false)) else if (x5.2.2.length:Int) > 200 then some (.inr (.inr false)) else some (.inl ((IntKind.i64.wrap (v4 + 1)))) else none else some (.inr (.inl ()))
theorem g120l1_b_eq  (v3:K2) (v4:Int):X g120_S g120l1_cb (keepEnv [1,3] [(1,(.ptr 0 0 0)),(3,(.int .i64 v4))]) [(.live 3 [[(.int .i64 v3.1),(.int .i64 v3.2.1),(.vs (rows v3.2.2))]])] = (spec_l14Ok_l1_b v3 v4).map (Sum.elim (fun s=>(TX.nrm,[(1,(.ptr 0 0 0)),(3,(.int .i64 s))],[(.live 3 [[(.int .i64 v3.1),(.int .i64 v3.2.1),(.vs (rows v3.2.2))]])])) g120l1_F):=by
  simp (maxSteps:=2000000) (maxDischargeDepth:=8) -implicitDefEqProofs [g120l1_cb,spec_l14Ok_l1_b] <;> (try simp only [map_to_bind,some_elim,g120l1_F])
def spec_l14Ok_l1 (v3:K2) (s:Int):Option ((Unit) ⊕ (Bool)):=loopO (fun s=>spec_l14Ok_l1_b v3 s) s
@[simp] theorem g120l1_eq (y0 y1 y2 y3):X g120_S g120l1_c [(1,(.ptr 0 0 0)),(3,(.int .i64 y3))] [(.live 3 [[(.int .i64 y0),(.int .i64 y1),(.vs (rows y2))]])] = (spec_l14Ok_l1 ((y0,y1,y2)) y3).map g120l1_F:=by
  exact loop_X _ _ _ _ (by intro r; first | (simp; done) | (rcases r with r | r <;> simp; done) | (rcases r with r | r | r <;> simp; done) | (rcases r with r | r | r | r <;> simp)) (fun s=>g120l1_b_eq  ((y0,y1,y2)) s) y3
def spec_l14Ok (a_h:K2):Option (Bool):=(spec_l00In a_h.1 1 3).bind fun r1=>if ¬(r1 = true) then some false else (spec_l00In a_h.2.1 0 1000).bind fun r2=>if ¬(r2 = true) then some false else if (a_h.2.2.length:Int) > 24 then some false else (spec_l14Ok_l1 a_h 0).bind fun r8=>Sum.elim (fun u9=>some true) (fun u10=>some u10) r8
@[simp] def g120_O:Bool → TV × List Blk:=fun r=>((.bool r),[])
def g120_E (a:K2):List TV:=[(.agg [(.int .i64 a.1),(.int .i64 a.2.1),(.vs (rows a.2.2))])]
theorem g120_run (a_h:K2) :callFn (X g120_S) g120_tf (g120_E a_h) [] = (spec_l14Ok a_h).map g120_O:=by
  rw [callFn_eq]
  simp (maxSteps:=2000000) (maxDischargeDepth:=8) -implicitDefEqProofs [g120_tf,spec_l14Ok,g120_E] <;> (try simp only [map_to_bind,some_elim,g120_O])
def g120_r:Rule:=RlO g120_E (fun a=>spec_l14Ok a) g120_O
theorem g120_ok:RuleOk Tryz.prog 105 g120_r:=ok_rlo (S:=g120_S) (tf:=g120_tf) (SysOk.on ⟨g117_ok,trivial⟩ trivial) (trE_ok (ks:=[[1,3]]) Tryz.func105 (by kernel_rfl)) fun a=>g120_run a
@[simp] theorem g120_app (y0 y1 y2):g120_r [(.agg [(.int .i64 y0),(.int .i64 y1),(.vs (rows y2))])] = (spec_l14Ok ((y0,y1,y2))).map g120_O :=
  RlO_app (enc:=g120_E) (by intro a b h; simp [g120_E,Prod.ext_iff] at h ⊢; simp [h]) ((y0,y1,y2))
@[simp] theorem g120_app_a_h_2 (y0 y1):g120_r [(.agg [(.int .i64 y0),(.int .i64 y1),(.vs [])])] = (spec_l14Ok ((y0,y1,([]:List (Int × Int × Str))))).map g120_O :=
  g120_app y0 y1 ([]:List (Int × Int × Str)) 
/-! spec.DecodeHeader -/
def g30l1_cb:TC:=(.seq (sq [mo 26 6,bn 27 .gtr (.t 26) (ki 0),mo 28 27,⟨(some 29),(some (28,true)),(.mv (.t 4))⟩,⟨(some 30),(some (28,true)),(.nilchk (.t 29))⟩,⟨(some 31),(some (28,true)),(.faddr 2 (.t 30))⟩,⟨(some 32),(some (28,true)),(.load none (.t 31))⟩,⟨(some 33),(some (28,true)),(.un .not (.t 32))⟩,pk 34 (.t 28) (.t 33) (kb false)] [0,2,4,5,6,34] (.cond (.t 34) .skip (.keep (kp [(0,0),(2,0),(4,0),(5,0)] [(0,2),(1,0),(2,2),(3,1)] 0) (.exit 0)))) (.trim [0,2,4,5,6] (.seq (.block 1 (sq [mo 37 4,oo 38 (.callM 103 0 [1] [.t 37]),oo 39 (.build [(.int .i64 0),(.int .i64 0),(.str [])] [(0,1,(.t 38))]),oo 7 (.alloc [(.int .i64 0),(.int .i64 0),(.str [])]),⟨none,none,(.store 3 (.t 7) (.t 39))⟩] [0,2,4,5,6,7] (sq [mo 40 4,oo 41 (.callM 103 0 [1] [.t 40]),fa 42 1 7,⟨none,none,(.store 1 (.t 42) (.t 41))⟩] [0,2,4,5,6,7] (sq [mo 43 4,mo 44 4,oo 45 (.callM 103 0 [1] [.t 44]),oo 46 (.callM 104 0 [1] [.t 43,.t 45]),fa 47 2 7,⟨none,none,(.store 1 (.t 47) (.t 46))⟩] [0,2,4,5,6,7] (.ops [fa 48 2 5,ld 49 48,ln 50 3 7,oo 51 (.bslice [(.int .i64 0),(.int .i64 0),(.str [])] 1 [(0,(.t 50))]),oo 52 (.append 127 3 32 (.t 49) (.t 51)),fa 53 2 5,⟨none,none,(.store 1 (.t 53) (.t 52))⟩]))))) (.trim [0,2,4,5,6] (.after (.ops [mo 35 6,bn 36 .sub (.t 35) (ki 1),mo 6 36]) (kp [(0,0),(2,0),(4,0),(5,0),(6,0)] [(0,2),(1,0),(2,2),(6,1)] 0))))))
def g30l1_c:TC:=.loop [0,2,4,5,6] g30l1_cb
def g30_tf:TFn:=⟨(sq [oo 2 (.alloc [(.int .i64 0),(.int .i64 0),.nils]),mk 3 (kb false)] [0,2] (sq [mo 8 0,oo 9 (.build [(.str []),(.int .i64 0),(.bool false)] [(0,1,(.t 8))]),bx 10 9,mo 4 10] [0,2,4] (sq [mo 11 4,oo 12 (.callM 103 0 [1] [.t 11]),oo 13 (.build [(.int .i64 0),(.int .i64 0),.nils] [(0,1,(.t 12))]),oo 5 (.alloc [(.int .i64 0),(.int .i64 0),.nils]),⟨none,none,(.store 3 (.t 5) (.t 13))⟩] [0,2,4,5] (sq [mo 14 4,oo 15 (.callM 103 0 [1] [.t 14]),fa 16 1 5,⟨none,none,(.store 1 (.t 16) (.t 15))⟩] [0,2,4,5] (.seq (.drawF [(none,fa 17 1 5),(none,ld 18 17),(none,mo 19 4),(some [17,18],oo 20 (.callM 103 0 [1] [.t 19])),(none,bn 21 .mul (ki 256) (.t 20))] [bn 22 .add (.t 18) (.t 21),fa 23 1 5,⟨none,none,(.store 1 (.t 23) (.t 22))⟩]) (.trim [0,2,4,5] (.seq (sq [mo 24 4,oo 25 (.callM 103 0 [1] [.t 24]),mo 6 25] [0,2,4,5,6] (.block 0 (.keep (kp [(0,0),(2,0),(4,0),(5,0),(6,0)] [(0,2),(1,0),(2,2),(1000,1)] 0) g30l1_c))) (.trim [0,2,4,5] (.seq (sq [mo 54 4,nk 55 54,fa 56 2 55,ld 57 56,mo 58 57,⟨(some 59),(some (58,false)),(.mv (.t 4))⟩,⟨(some 60),(some (58,false)),(.nilchk (.t 59))⟩,⟨(some 61),(some (58,false)),(.faddr 1 (.t 60))⟩,⟨(some 62),(some (58,false)),(.load none (.t 61))⟩,⟨(some 63),(some (58,false)),(.mv (.t 0))⟩,⟨(some 64),(some (58,false)),(.len true (.t 63))⟩,⟨(some 65),(some (58,false)),(.bin .num .neq (.t 62) (.t 64))⟩,pk 66 (.t 58) (kb true) (.t 65),mo 67 66,⟨(some 68),(some (67,false)),(.load (some 3) (.t 5))⟩,⟨(some 69),(some (67,false)),(.call 105 [.t 68])⟩,⟨(some 70),(some (67,false)),(.un .not (.t 69))⟩,pk 71 (.t 67) (kb true) (.t 70)] [2,5,71] (.cond (.t 71) (.seq (.ops [oo 72 (.build [(.int .i64 0),(.int .i64 0),.nils] []),⟨none,none,(.store 3 (.t 2) (.t 72))⟩,mk 3 (kb false)]) (.keep (kp [(2,0),(3,0)] [(0,2),(1000,1)] 0) .ret)) .skip)) (.trim [2,5] (.seq (.ops [ln 73 3 5,⟨none,none,(.store 3 (.t 2) (.t 73))⟩,mk 3 (kb true)]) (.keep (kp [(2,0),(3,0)] [(0,2),(3,1)] 0) .ret)))))))))))),[.cell 2 (some 3),.t 3]⟩
abbrev g30_S:=Sys.on [(105,g120_r)] [((103,0),(1,g14_r)),((104,0),(1,g15_r))]
@[reducible,simp] def g30l1_F:(Str × Int × Int × (Str × Int × Bool) × K2) → Out:=(fun t=>(.ext 0,[(0,(.str t.1)),(2,(.ptr 0 0 0)),(4,(.ptr 1 0 0)),(5,(.ptr 2 0 0))],[(.live 3 [[(.int .i64 t.2.1),(.int .i64 t.2.2.1),.es]]),(.live 3 [[(.str t.2.2.2.1.1),(.int .i64 t.2.2.2.1.2.1),(.bool t.2.2.2.1.2.2)]]),(.live 3 [[(.int .i64 t.2.2.2.2.1),(.int .i64 t.2.2.2.2.2.1),(ow 3 t.2.2.2.2.2.2.length)]]),(ob 3 t.2.2.2.2.2.2)]))
def spec_DecodeHeader_l1_b (v5:Str) (v6:Int) (v7:Int) (v8:Str × Int × Bool) (v9:K2) (v10:Int):Option (((Str × Int × Bool) × K2 × Int) ⊕ (Str × Int × Int × (Str × Int × Bool) × K2)):=if v10 > 0 then if ¬(v8.2.2 = true) then (spec_l02Reader_byte_o2b v8).bind fun r11=>(spec_l02Reader_byte_o2b r11.1).bind fun r12=>(spec_l02Reader_byte_o2b r12.1).bind fun r13=>(spec_l02Reader_take_oa0 r13.1 r13.2).bind fun r14=>(appL 32 v9.2.2 ((lit [(r11.2,r12.2,r14.2)]:List (Int × Int × Str)))).bind fun l15=>some (.inl (r14.1,(v9.1,v9.2.1,l15),(IntKind.i64.wrap (v10 - 1)))) else some (.inr (v5,v6,v7,v8,v9)) else some (.inr (v5,v6,v7,v8,v9))
theorem g30l1_b_eq  (v5:Str) (v6:Int) (v7:Int) (v8:Str × Int × Bool) (v9:K2) (v10:Int):X g30_S g30l1_cb (keepEnv [0,2,4,5,6] [(0,(.str v5)),(2,(.ptr 0 0 0)),(4,(.ptr 1 0 0)),(5,(.ptr 2 0 0)),(6,(.int .i64 v10))]) [(.live 3 [[(.int .i64 v6),(.int .i64 v7),.es]]),(.live 3 [[(.str v8.1),(.int .i64 v8.2.1),(.bool v8.2.2)]]),(.live 3 [[(.int .i64 v9.1),(.int .i64 v9.2.1),(ow 3 v9.2.2.length)]]),(ob 3 v9.2.2)] = (spec_DecodeHeader_l1_b v5 v6 v7 v8 v9 v10).map (Sum.elim (fun s=>(TX.nrm,[(0,(.str v5)),(2,(.ptr 0 0 0)),(4,(.ptr 1 0 0)),(5,(.ptr 2 0 0)),(6,(.int .i64 s.2.2))],[(.live 3 [[(.int .i64 v6),(.int .i64 v7),.es]]),(.live 3 [[(.str s.1.1),(.int .i64 s.1.2.1),(.bool s.1.2.2)]]),(.live 3 [[(.int .i64 s.2.1.1),(.int .i64 s.2.1.2.1),(ow 3 s.2.1.2.2.length)]]),(ob 3 s.2.1.2.2)])) g30l1_F):=by
  simp (maxSteps:=2000000) (maxDischargeDepth:=8) -implicitDefEqProofs [g30l1_cb,spec_DecodeHeader_l1_b,bslV_lit (α:=Int × Int × Str) (zs:=[(.int .i64 0),(.int .i64 0),(.str [])])] <;> (try simp only [map_to_bind,some_elim,g30l1_F])
def spec_DecodeHeader_l1 (v5:Str) (v6:Int) (v7:Int) (s:(Str × Int × Bool) × K2 × Int):Option (Str × Int × Int × (Str × Int × Bool) × K2):=loopO (fun s=>spec_DecodeHeader_l1_b v5 v6 v7 s.1 s.2.1 s.2.2) s
@[simp] theorem g30l1_eq (y0 y1 y2 y3 y4 y5 y6 y7 y8 y9):X g30_S g30l1_c [(0,(.str y0)),(2,(.ptr 0 0 0)),(4,(.ptr 1 0 0)),(5,(.ptr 2 0 0)),(6,(.int .i64 y9))] [(.live 3 [[(.int .i64 y1),(.int .i64 y2),.es]]),(.live 3 [[(.str y3),(.int .i64 y4),(.bool y5)]]),(.live 3 [[(.int .i64 y6),(.int .i64 y7),(ow 3 y8.length)]]),(ob 3 y8)] = (spec_DecodeHeader_l1 y0 y1 y2 ((y3,y4,y5),(y6,y7,y8),y9)).map g30l1_F:=by
  exact loop_X _ _ _ _ (by intro r; first | (simp; done) | (rcases r with r | r <;> simp; done) | (rcases r with r | r | r <;> simp; done) | (rcases r with r | r | r | r <;> simp)) (fun s=>g30l1_b_eq  y0 y1 y2 s.1 s.2.1 s.2.2) ((y3,y4,y5),(y6,y7,y8),y9)
@[simp] theorem g30l1_eq_4x2 (y0 y1 y2 y3 y4 y5 y6 y7 y8):X g30_S g30l1_c [(0,(.str y0)),(2,(.ptr 0 0 0)),(4,(.ptr 1 0 0)),(5,(.ptr 2 0 0)),(6,(.int .i64 y8))] [(.live 3 [[(.int .i64 y1),(.int .i64 y2),.es]]),(.live 3 [[(.str y3),(.int .i64 y4),(.bool y5)]]),(.live 3 [[(.int .i64 y6),(.int .i64 y7),.es]]),.dead] = (spec_DecodeHeader_l1 y0 y1 y2 ((y3,y4,y5),(y6,y7,([]:List (Int × Int × Str))),y8)).map g30l1_F :=
  g30l1_eq  y0 y1 y2 y3 y4 y5 y6 y7 ([]:List (Int × Int × Str)) y8 
def spec_DecodeHeader (a_s:Str):Option (K2 × Bool):=(spec_l02Reader_byte_o2b ((a_s,0,false))).bind fun r1=>(spec_l02Reader_byte_o2b r1.1).bind fun r2=>(spec_l02Reader_byte_o2b r2.1).bind fun r3=>(spec_l02Reader_byte_o2b r3.1).bind fun r4=>(spec_DecodeHeader_l1 a_s 0 0 ((r4.1,(r1.2,(IntKind.i64.wrap (r2.2 + (IntKind.i64.wrap (256 * r3.2)))),([]:List (Int × Int × Str))),r4.2))).bind fun r16=>if r16.2.2.2.1.2.2 = true then some ((0,0,([]:List (Int × Int × Str))),false) else if ¬(r16.2.2.2.1.2.1 = (r16.1.length:Int)) then some ((0,0,([]:List (Int × Int × Str))),false) else (spec_l14Ok r16.2.2.2.2).bind fun r17=>if ¬(r17 = true) then some ((0,0,([]:List (Int × Int × Str))),false) else some (r16.2.2.2.2,true)
@[simp] def g30_O:(K2 × Bool) → TV × List Blk:=fun r=>((.tup [(.agg [(.int .i64 r.1.1),(.int .i64 r.1.2.1),(ow 1 r.1.2.2.length)]),(.bool r.2)]),[(.live 3 [[(.int .i64 r.1.1),(.int .i64 r.1.2.1),(ow 1 r.1.2.2.length)]]),(ob 3 r.1.2.2)])
def g30_E (a:Str):List TV:=[(.str a)]
theorem g30_run (a_s:Str) :callFn (X g30_S) g30_tf (g30_E a_s) [] = (spec_DecodeHeader a_s).map g30_O:=by
  rw [callFn_eq]
  simp (maxSteps:=2000000) (maxDischargeDepth:=8) -implicitDefEqProofs [g30_tf,spec_DecodeHeader,g30_E,bslV_lit (α:=Int × Int × Str) (zs:=[(.int .i64 0),(.int .i64 0),(.str [])])] <;> (try simp only [map_to_bind,some_elim,g30_O])
def g30_r:Rule:=RlO g30_E (fun a=>spec_DecodeHeader a) g30_O
theorem g30_ok:RuleOk Tryz.prog 63 g30_r:=ok_rlo (S:=g30_S) (tf:=g30_tf) (SysOk.on ⟨g120_ok,trivial⟩ ⟨g14_ok,g15_ok,trivial⟩) (trE_ok (ks:=[[5,2000000,0,0,0,0,3,17,18,0],[0,2,4,5,6]]) Tryz.func63 (by kernel_rfl)) fun a=>g30_run a
@[simp] theorem g30_app (y0):g30_r [(.str y0)] = (spec_DecodeHeader y0).map g30_O :=
  RlO_app (enc:=g30_E) (by intro a b h; simp [g30_E,Prod.ext_iff] at h ⊢; simp [h]) y0
/-! spec.l14Chain -/
def g77p2_c:TC:=(sq [mo 71 8,mo 72 10,mo 73 13,bn 74 .add (ki 4) (.t 73),oo 75 (.sliceS (.t 72) (some (ki 4)) (some (.t 74))),oo 76 (.bin .str .add (.t 71) (.t 75)),mo 8 76] [0,5,7,8,11] (.seq (sq [mo 77 11,bn 78 .eql (.t 77) (ki 0)] [0,5,7,8,11,78] (.cond (.t 78) (.keep (kp [(5,0),(7,1),(8,0)] [(0,2),(1,1)] 0) (.exit 0)) .skip)) (.trim [0,5,7,8,11] (.after (.ops [mo 79 11,mo 9 79]) (kp [(0,0),(5,0),(7,1),(8,0),(9,0)] [(0,2),(1,1)] 0)))))
def g77l1_cb:TC:=(.block 1 (.seq (sq [mo 19 0,mo 20 9,ca 21 58 [.t 19,.t 20],nt 22 21,mo 23 22,⟨(some 24),(some (23,false)),(.mv (.t 7))⟩,⟨(some 25),(some (23,false)),(.mv (.t 9))⟩,⟨(some 26),(some (23,false)),(.call 59 [.t 24,.t 25])⟩,pk 27 (.t 23) (kb true) (.t 26)] [0,5,7,8,9,27] (.cond (.t 27) (.seq (.ops [oo 28 (.build [(.int .i64 0),(.int .i64 0),.nils] []),mk 4 (.c .nils),⟨none,none,(.store 3 (.t 5) (.t 28))⟩,mk 6 (kb false)]) (.keep (kp [(4,1),(5,0),(6,0)] [(1000,1),(0,2),(1001,1)] 0) .ret)) .skip)) (.trim [0,5,7,8,9] (sq [mo 29 7,mo 30 9,oo 31 (.bslice [(.int .i64 0)] 1 [(0,(.t 30))]),oo 32 (.append 2 1 8 (.t 29) (.t 31)),mo 7 32] [0,5,7,8,9] (sq [mo 33 0,mo 34 9,ca 35 60 [.t 33,.t 34],mo 10 35] [0,5,7,8,10] (sq [mo 37 10,ca 38 61 [.t 37,ki 0,ki 2],mo 36 38,oo 39 (.ext (.t 36) 0),oo 40 (.ext (.t 36) 1),mo 11 39,mo 12 40] [0,5,7,8,10,11] (sq [mo 42 10,ca 43 61 [.t 42,ki 2,ki 2],mo 41 43,oo 44 (.ext (.t 41) 0),oo 45 (.ext (.t 41) 1),mo 13 44,mo 14 45] [0,5,7,8,10,11,13] (.seq (.seq (.draw [([],mo 46 13),([0],bn 47 .lss (.t 46) (ki 1)),([0,1],mo 48 47),([0,1,2],⟨(some 49),(some (48,false)),(.mv (.t 13))⟩),([0,1,2,3],⟨(some 50),(some (48,false)),(.bin .num .gtr (.t 49) (ki 60))⟩),([0,1,2,3,4],pk 51 (.t 48) (kb true) (.t 50)),([0,1,2,3,4,5],mo 52 51),([0,1,2,3,4,5,6],⟨(some 53),(some (52,false)),(.mv (.t 11))⟩),([0,1,2,3,4,5,6,7],⟨(some 54),(some (52,false)),(.bin .num .neq (.t 53) (ki 0))⟩),([0,1,2,3,4,5,6,7,8],⟨(some 55),(some (52,false)),(.mv (.t 54))⟩),([0,1,2,3,4,5,6,7,8,9],⟨(some 56),(some (55,true)),(.mv (.t 13))⟩),([0,1,2,3,4,5,6,7,8,9,10],⟨(some 57),(some (55,true)),(.bin .num .neq (.t 56) (ki 60))⟩),([0,1,2,3,4,5,6,7,8,9,10,11],⟨(some 58),(some (52,false)),(.pick (.t 55) (.t 57) (kb false))⟩),([0,1,2,3,4,5,6,7,8,9,10,11,12],pk 59 (.t 52) (kb true) (.t 58)),([0,1,2,3,4,5,6,7,8,9,10,11,12,13],mo 60 59),([0,1,2,3,4,5,6,7,8,9,10,11,12,13,14],⟨(some 61),(some (60,false)),(.mv (.t 10))⟩),([0,1,2,3,4,5,6,7,8,9,10,11,12,13,14],⟨(some 62),(some (60,false)),(.mv (.t 13))⟩),([0,1,2,3,4,5,6,7,8,9,10,11,12,13,14,16],⟨(some 63),(some (60,false)),(.bin .num .add (ki 4) (.t 62))⟩),([0,1,2,3,4,5,6,7,8,9,10,11,12,13,14,15,16,17],⟨(some 64),(some (60,false)),(.sliceS (.t 61) (some (.t 63)) none)⟩),([0,1,2,3,4,5,6,7,8,9,10,11,12,13,14],⟨(some 65),(some (60,false)),(.mv (.t 13))⟩),([0,1,2,3,4,5,6,7,8,9,10,11,12,13,14,19],⟨(some 66),(some (60,false)),(.bin .num .sub (ki 60) (.t 65))⟩),([0,1,2,3,4,5,6,7,8,9,10,11,12,13,14,19,20],⟨(some 67),(some (60,false)),(.call 62 [.t 66])⟩)] [⟨(some 68),(some (60,false)),(.bin .str .neq (.t 64) (.t 67))⟩,pk 69 (.t 60) (kb true) (.t 68)]) (.trim [0,5,7,8,10,11,13,69] (.cond (.t 69) (.seq (.ops [oo 70 (.build [(.int .i64 0),(.int .i64 0),.nils] []),mk 4 (.c .nils),⟨none,none,(.store 3 (.t 5) (.t 70))⟩,mk 6 (kb false)]) (.keep (kp [(4,1),(5,0),(6,0)] [(1000,1),(0,2),(1001,1)] 0) .ret)) (.keep (kp [(0,0),(5,0),(7,1),(8,0),(10,0),(11,0),(13,0)] [(0,2),(3,1)] 0) .skip)))) (.trim [0,5,7,8,10,11,13] g77p2_c)))))))))
def g77l1_c:TC:=.loop [0,5,7,8,9] g77l1_cb
def g77_tf:TFn:=⟨(sq [mk 4 (.c .nils),oo 5 (.alloc [(.int .i64 0),(.int .i64 0),.nils]),mk 6 (kb false)] [0,1,5] (sq [oo 17 (.bslice [(.int .i64 0)] 0 []),mo 7 17] [0,1,5,7] (sq [mk 8 (.c (.str []))] [0,1,5,7,8] (.seq (sq [mo 18 1,mo 9 18] [0,5,7,8,9] (.block 0 (.keep (kp [(0,0),(5,0),(7,1),(8,0),(9,0)] [(0,2),(1000,1)] 0) g77l1_c))) (.trim [5,7,8] (sq [mo 81 8,ca 82 63 [.t 81],mo 80 82,oo 83 (.ext (.t 80) 0),oo 84 (.ext (.t 80) 1),oo 15 (.alloc [(.int .i64 0),(.int .i64 0),.nils]),⟨none,none,(.store 3 (.t 15) (.t 83))⟩,mo 16 84] [5,7,15,16] (.seq (.drawF [(none,mo 85 7),(none,ln 86 3 15),(none,mo 87 16),(none,mo 4 85),(some [87],⟨none,none,(.store 3 (.t 5) (.t 86))⟩)] [mo 6 87]) (.keep (kp [(4,1),(5,0),(6,0)] [(1,1),(0,2),(3,1)] 0) .ret)))))))),[.t 4,.cell 5 (some 3),.t 6]⟩
abbrev g77_S:=Sys.on [(58,g91_r),(59,g108_r),(60,g106_r),(61,g47_r),(62,g76_r),(63,g30_r)] []
def spec_l14Chain_p2 (v17:K1) (v18:Int) (v19:Int) (v20:List Int) (v21:Str) (v22:Str) (v23:Int) (v24:Int):Option ((Int × Int × List Int × Str) ⊕ (K1 × Int × Int × List Int × Str × Int)):=(subL v22 (some 4) (some ((IntKind.i64.wrap (4 + v24))))).bind fun s25=>if v21.length + s25.length ≤ 9223372036854775807 then if v23 = 0 then some ((.inl (v18,v19,v20,(v21 ++ s25)))) else some ((.inr (v17,v18,v19,v20,(v21 ++ s25),v23))) else none
@[simp] theorem g77p2_eq (q0:List TV)(y0 y1 y2 y3 y4 y5 y6 y7 y8 y9 y10 y11 y12 y13)(y14:List Int)(y15 y16 y17 y18){n1:Nat}(h1:n1 = y14.length):X g77_S g77p2_c [(0,(.vp ((.vs (rows y0))::(.vs (rows y1))::(.int .i64 y2)::(.bool y3)::(.int .i64 y4)::(.int .i64 y5)::(.int .i64 y6)::(.int .i64 y7)::(.int .i64 y8)::(.int .i64 y9)::(.vs (rows y10))::(.vs (rows y11))::q0))),(5,(.ptr 0 0 0)),(7,(ow 1 n1)),(8,(.str y15)),(10,(.str y16)),(11,(.int .i64 y17)),(13,(.int .i64 y18))] [(.live 3 [[(.int .i64 y12),(.int .i64 y13),.es]]),(ob 1 y14)] = (spec_l14Chain_p2 (((y0,y1,y2,y3),(y4,y5,y6,y7),y8,y9,y10,y11)) y12 y13 y14 y15 y16 y17 y18).map (Sum.elim (fun t=>(.ext 0,[(5,(.ptr 0 0 0)),(7,(ow 1 t.2.2.1.length)),(8,(.str t.2.2.2))],[(.live 3 [[(.int .i64 t.1),(.int .i64 t.2.1),.es]]),(ob 1 t.2.2.1)])) (fun t=>(.nrm,[(0,(.vp ((.vs (rows t.1.1.1))::(.vs (rows t.1.1.2.1))::(.int .i64 t.1.1.2.2.1)::(.bool t.1.1.2.2.2)::(.int .i64 t.1.2.1.1)::(.int .i64 t.1.2.1.2.1)::(.int .i64 t.1.2.1.2.2.1)::(.int .i64 t.1.2.1.2.2.2)::(.int .i64 t.1.2.2.1)::(.int .i64 t.1.2.2.2.1)::(.vs (rows t.1.2.2.2.2.1))::(.vs (rows t.1.2.2.2.2.2))::q0))),(5,(.ptr 0 0 0)),(7,(ow 1 t.2.2.2.1.length)),(8,(.str t.2.2.2.2.1)),(9,(.int .i64 t.2.2.2.2.2))],[(.live 3 [[(.int .i64 t.2.1),(.int .i64 t.2.2.1),.es]]),(ob 1 t.2.2.2.1)]))):=by
  subst h1
  simp (maxSteps:=2000000) (maxDischargeDepth:=8) -implicitDefEqProofs [g77p2_c,spec_l14Chain_p2,bslV_lit (α:=Int) (zs:=[(.int .i64 0)])] <;> (try simp only [map_to_bind,some_elim])
@[reducible,simp] def g77l1_F:((List Int × K2 × Bool) ⊕ (Int × Int × List Int × Str)) → Out:=(Sum.elim (fun t=>(.ret,[(4,(ow 0 t.1.length)),(5,(.ptr 1 0 0)),(6,(.bool t.2.2))],[(ob 1 t.1),(.live 3 [[(.int .i64 t.2.1.1),(.int .i64 t.2.1.2.1),(ow 2 t.2.1.2.2.length)]]),(ob 3 t.2.1.2.2)])) (fun t=>(.ext 0,[(5,(.ptr 0 0 0)),(7,(ow 1 t.2.2.1.length)),(8,(.str t.2.2.2))],[(.live 3 [[(.int .i64 t.1),(.int .i64 t.2.1),.es]]),(ob 1 t.2.2.1)])))
def spec_l14Chain_l1_b (v1:K1) (v2:Int) (v3:Int) (v4:List Int) (v5:Str) (v6:Int):Option ((K1 × Int × Int × List Int × Str × Int) ⊕ ((List Int × K2 × Bool) ⊕ (Int × Int × List Int × Str))):=(spec_l14Used v1 v6).bind fun r7=>if ¬(r7 = true) then some (.inr (.inl (([]:List Int),(0,0,([]:List (Int × Int × Str))),false))) else (spec_l00Has v4 v6).bind fun r8=>if r8 = true then some (.inr (.inl (([]:List Int),(0,0,([]:List (Int × Int × Str))),false))) else (appL 8 v4 ((lit [v6]:List Int))).bind fun l9=>(spec_l12Get v1 v6).bind fun r10=>(spec_l01GetUint r10 0 2).bind fun r11=>(spec_l01GetUint r10 2 2).bind fun r12=>if r12.1 < 1 then some (.inr (.inl (([]:List Int),(0,0,([]:List (Int × Int × Str))),false))) else if r12.1 > 60 then some (.inr (.inl (([]:List Int),(0,0,([]:List (Int × Int × Str))),false))) else if ¬(r11.1 = 0) then if ¬(r12.1 = 60) then some (.inr (.inl (([]:List Int),(0,0,([]:List (Int × Int × Str))),false))) else (subL r10 (some ((IntKind.i64.wrap (4 + r12.1)))) none).bind fun s13=>(spec_l03Zeros ((IntKind.i64.wrap (60 - r12.1)))).bind fun r14=>if ¬(s13 = r14) then some (.inr (.inl (([]:List Int),(0,0,([]:List (Int × Int × Str))),false))) else (spec_l14Chain_p2 v1 v2 v3 l9 v5 r10 r11.1 r12.1).bind fun r26=>Sum.elim (fun u27=>some (.inr (.inr (u27.1,u27.2.1,u27.2.2.1,u27.2.2.2)))) (fun u28=>some (.inl (u28.1,u28.2.1,u28.2.2.1,u28.2.2.2.1,u28.2.2.2.2.1,u28.2.2.2.2.2))) r26 else (subL r10 (some ((IntKind.i64.wrap (4 + r12.1)))) none).bind fun s15=>(spec_l03Zeros ((IntKind.i64.wrap (60 - r12.1)))).bind fun r16=>if ¬(s15 = r16) then some (.inr (.inl (([]:List Int),(0,0,([]:List (Int × Int × Str))),false))) else (spec_l14Chain_p2 v1 v2 v3 l9 v5 r10 r11.1 r12.1).bind fun r29=>Sum.elim (fun u30=>some (.inr (.inr (u30.1,u30.2.1,u30.2.2.1,u30.2.2.2)))) (fun u31=>some (.inl (u31.1,u31.2.1,u31.2.2.1,u31.2.2.2.1,u31.2.2.2.2.1,u31.2.2.2.2.2))) r29
theorem g77l1_b_eq (q0:List TV) (v1:K1) (v2:Int) (v3:Int) (v4:List Int) (v5:Str) (v6:Int):X g77_S g77l1_cb (keepEnv [0,5,7,8,9] [(0,(.vp ((.vs (rows v1.1.1))::(.vs (rows v1.1.2.1))::(.int .i64 v1.1.2.2.1)::(.bool v1.1.2.2.2)::(.int .i64 v1.2.1.1)::(.int .i64 v1.2.1.2.1)::(.int .i64 v1.2.1.2.2.1)::(.int .i64 v1.2.1.2.2.2)::(.int .i64 v1.2.2.1)::(.int .i64 v1.2.2.2.1)::(.vs (rows v1.2.2.2.2.1))::(.vs (rows v1.2.2.2.2.2))::q0))),(5,(.ptr 0 0 0)),(7,(ow 1 v4.length)),(8,(.str v5)),(9,(.int .i64 v6))]) [(.live 3 [[(.int .i64 v2),(.int .i64 v3),.es]]),(ob 1 v4)] = (spec_l14Chain_l1_b v1 v2 v3 v4 v5 v6).map (Sum.elim (fun s=>(TX.nrm,[(0,(.vp ((.vs (rows s.1.1.1))::(.vs (rows s.1.1.2.1))::(.int .i64 s.1.1.2.2.1)::(.bool s.1.1.2.2.2)::(.int .i64 s.1.2.1.1)::(.int .i64 s.1.2.1.2.1)::(.int .i64 s.1.2.1.2.2.1)::(.int .i64 s.1.2.1.2.2.2)::(.int .i64 s.1.2.2.1)::(.int .i64 s.1.2.2.2.1)::(.vs (rows s.1.2.2.2.2.1))::(.vs (rows s.1.2.2.2.2.2))::q0))),(5,(.ptr 0 0 0)),(7,(ow 1 s.2.2.2.1.length)),(8,(.str s.2.2.2.2.1)),(9,(.int .i64 s.2.2.2.2.2))],[(.live 3 [[(.int .i64 s.2.1),(.int .i64 s.2.2.1),.es]]),(ob 1 s.2.2.2.1)])) g77l1_F):=by
  simp (maxSteps:=2000000) (maxDischargeDepth:=8) -implicitDefEqProofs [g77l1_cb,spec_l14Chain_l1_b,bslV_lit (α:=Int) (zs:=[(.int .i64 0)])] <;> (try simp only [map_to_bind,some_elim,g77l1_F])
def spec_l14Chain_l1  (s:K1 × Int × Int × List Int × Str × Int):Option ((List Int × K2 × Bool) ⊕ (Int × Int × List Int × Str)):=loopO (fun s=>spec_l14Chain_l1_b  s.1 s.2.1 s.2.2.1 s.2.2.2.1 s.2.2.2.2.1 s.2.2.2.2.2) s
@[simp] theorem g77l1_eq (q0:List TV)(y0 y1 y2 y3 y4 y5 y6 y7 y8 y9 y10 y11 y12 y13)(y14:List Int)(y15 y16){n1:Nat}(h1:n1 = y14.length):X g77_S g77l1_c [(0,(.vp ((.vs (rows y0))::(.vs (rows y1))::(.int .i64 y2)::(.bool y3)::(.int .i64 y4)::(.int .i64 y5)::(.int .i64 y6)::(.int .i64 y7)::(.int .i64 y8)::(.int .i64 y9)::(.vs (rows y10))::(.vs (rows y11))::q0))),(5,(.ptr 0 0 0)),(7,(ow 1 n1)),(8,(.str y15)),(9,(.int .i64 y16))] [(.live 3 [[(.int .i64 y12),(.int .i64 y13),.es]]),(ob 1 y14)] = (spec_l14Chain_l1  (((y0,y1,y2,y3),(y4,y5,y6,y7),y8,y9,y10,y11),y12,y13,y14,y15,y16)).map g77l1_F:=by
  subst h1
  exact loop_X _ _ _ _ (by intro r; first | (simp; done) | (rcases r with r | r <;> simp; done) | (rcases r with r | r | r <;> simp; done) | (rcases r with r | r | r | r <;> simp)) (fun s=>g77l1_b_eq q0  s.1 s.2.1 s.2.2.1 s.2.2.2.1 s.2.2.2.2.1 s.2.2.2.2.2) (((y0,y1,y2,y3),(y4,y5,y6,y7),y8,y9,y10,y11),y12,y13,y14,y15,y16)
@[simp] theorem g77l1_eq_3 (q0:List TV)(y0 y1 y2 y3 y4 y5 y6 y7 y8 y9 y10 y11 y12 y13 y14 y15):X g77_S g77l1_c [(0,(.vp ((.vs (rows y0))::(.vs (rows y1))::(.int .i64 y2)::(.bool y3)::(.int .i64 y4)::(.int .i64 y5)::(.int .i64 y6)::(.int .i64 y7)::(.int .i64 y8)::(.int .i64 y9)::(.vs (rows y10))::(.vs (rows y11))::q0))),(5,(.ptr 0 0 0)),(7,.es),(8,(.str y14)),(9,(.int .i64 y15))] [(.live 3 [[(.int .i64 y12),(.int .i64 y13),.es]]),.dead] = (spec_l14Chain_l1  (((y0,y1,y2,y3),(y4,y5,y6,y7),y8,y9,y10,y11),y12,y13,([]:List Int),y14,y15)).map g77l1_F :=
  g77l1_eq q0 y0 y1 y2 y3 y4 y5 y6 y7 y8 y9 y10 y11 y12 y13 ([]:List Int) y14 y15 rfl
def spec_l14Chain (a_p:K1) (a_at:Int):Option (List Int × K2 × Bool):=(spec_l14Chain_l1 ((a_p,0,0,([]:List Int),([]:Str),a_at))).bind fun r32=>Sum.elim (fun u33=>some (u33.1,u33.2.1,u33.2.2)) (fun u34=>(spec_DecodeHeader u34.2.2.2).bind fun r35=>some (u34.2.2.1,r35.1,r35.2)) r32
@[simp] def g77_O:(List Int × K2 × Bool) → TV × List Blk:=fun r=>((.tup [(ow 0 r.1.length),(.agg [(.int .i64 r.2.1.1),(.int .i64 r.2.1.2.1),(ow 2 r.2.1.2.2.length)]),(.bool r.2.2)]),[(ob 1 r.1),(.live 3 [[(.int .i64 r.2.1.1),(.int .i64 r.2.1.2.1),(ow 2 r.2.1.2.2.length)]]),(ob 3 r.2.1.2.2)])
def g77_E (a:K1 × Int × List TV):List TV:=[(.vp ((.vs (rows a.1.1.1))::(.vs (rows a.1.1.2.1))::(.int .i64 a.1.1.2.2.1)::(.bool a.1.1.2.2.2)::(.int .i64 a.1.2.1.1)::(.int .i64 a.1.2.1.2.1)::(.int .i64 a.1.2.1.2.2.1)::(.int .i64 a.1.2.1.2.2.2)::(.int .i64 a.1.2.2.1)::(.int .i64 a.1.2.2.2.1)::(.vs (rows a.1.2.2.2.2.1))::(.vs (rows a.1.2.2.2.2.2))::a.2.2)),(.int .i64 a.2.1)]
theorem g77_run (a_p:K1) (a_at:Int) (q0:List TV):callFn (X g77_S) g77_tf (g77_E (a_p,a_at,q0)) [] = (spec_l14Chain a_p a_at).map g77_O:=by
  rw [callFn_eq]
  simp (maxSteps:=2000000) (maxDischargeDepth:=8) -implicitDefEqProofs [g77_tf,spec_l14Chain,g77_E,bslV_lit (α:=Int) (zs:=[(.int .i64 0)])] <;> (try simp only [map_to_bind,some_elim,g77_O])
def g77_r:Rule:=RlO g77_E (fun a=>spec_l14Chain a.1 a.2.1) g77_O
theorem g77_ok:RuleOk Tryz.prog 26 g77_r:=ok_rlo (S:=g77_S) (tf:=g77_tf) (SysOk.on ⟨g91_ok,g108_ok,g106_ok,g47_ok,g76_ok,g30_ok,trivial⟩ trivial) (trE_ok (ks:=[[0,5,7,8,9],[22],[5,2000000,0,0,0,0,0,2,87]]) Tryz.func26 (by kernel_rfl)) fun a=>g77_run a.1 a.2.1 a.2.2
@[simp] theorem g77_app (y0 y1 y2 y3 y4 y5 y6 y7 y8 y9 y10 y11 y12)(q0:List TV):g77_r [(.vp ((.vs (rows y0))::(.vs (rows y1))::(.int .i64 y2)::(.bool y3)::(.int .i64 y4)::(.int .i64 y5)::(.int .i64 y6)::(.int .i64 y7)::(.int .i64 y8)::(.int .i64 y9)::(.vs (rows y10))::(.vs (rows y11))::q0)),(.int .i64 y12)] = (spec_l14Chain (((y0,y1,y2,y3),(y4,y5,y6,y7),y8,y9,y10,y11)) y12).map g77_O :=
  RlO_app (enc:=g77_E) (by intro a b h; simp [g77_E,Prod.ext_iff] at h ⊢; simp [h]) (((y0,y1,y2,y3),(y4,y5,y6,y7),y8,y9,y10,y11),y12,q0)
/-! spec.l14Read -/
def g92_tf:TFn:=⟨(sq [oo 4 (.alloc [(.int .i64 0),(.int .i64 0),.nils]),mk 5 (ki 0)] [0,1,4] (sq [mo 10 0,mo 11 1,ca 12 26 [.t 10,.t 11],mo 9 12,oo 13 (.ext (.t 9) 0),oo 14 (.ext (.t 9) 1),oo 15 (.ext (.t 9) 2),oo 7 (.alloc [(.int .i64 0),(.int .i64 0),.nils]),mo 6 13,⟨none,none,(.store 3 (.t 7) (.t 14))⟩,mo 8 15] [4,7,8] (.seq (sq [mo 16 8,nt 17 16] [4,7,17] (.cond (.t 17) (.seq (.ops [oo 18 (.build [(.int .i64 0),(.int .i64 0),.nils] []),⟨none,none,(.store 3 (.t 4) (.t 18))⟩,mk 5 (ki 10)]) (.keep (kp [(4,0),(5,0)] [(0,2),(1000,1)] 0) .ret)) .skip)) (.trim [4,7] (.seq (.ops [ln 19 3 7,⟨none,none,(.store 3 (.t 4) (.t 19))⟩,mk 5 (ki 0)]) (.keep (kp [(4,0),(5,0)] [(0,2),(3,1)] 0) .ret)))))),[.cell 4 (some 3),.t 5]⟩
abbrev g92_S:=Sys.on [(26,g77_r)] []
def spec_l14Read (a_p:K1) (a_at:Int):Option (K2 × Int):=(spec_l14Chain a_p a_at).bind fun r1=>if ¬(r1.2.2 = true) then some ((0,0,([]:List (Int × Int × Str))),10) else some (r1.2.1,0)
@[simp] def g92_O:(K2 × Int) → TV × List Blk:=fun r=>((.tup [(.agg [(.int .i64 r.1.1),(.int .i64 r.1.2.1),(ow 1 r.1.2.2.length)]),(.int .i64 r.2)]),[(.live 3 [[(.int .i64 r.1.1),(.int .i64 r.1.2.1),(ow 1 r.1.2.2.length)]]),(ob 3 r.1.2.2)])
def g92_E (a:K1 × Int × List TV):List TV:=[(.vp ((.vs (rows a.1.1.1))::(.vs (rows a.1.1.2.1))::(.int .i64 a.1.1.2.2.1)::(.bool a.1.1.2.2.2)::(.int .i64 a.1.2.1.1)::(.int .i64 a.1.2.1.2.1)::(.int .i64 a.1.2.1.2.2.1)::(.int .i64 a.1.2.1.2.2.2)::(.int .i64 a.1.2.2.1)::(.int .i64 a.1.2.2.2.1)::(.vs (rows a.1.2.2.2.2.1))::(.vs (rows a.1.2.2.2.2.2))::a.2.2)),(.int .i64 a.2.1)]
theorem g92_run (a_p:K1) (a_at:Int) (q0:List TV):callFn (X g92_S) g92_tf (g92_E (a_p,a_at,q0)) [] = (spec_l14Read a_p a_at).map g92_O:=by
  rw [callFn_eq]
  simp (maxSteps:=2000000) (maxDischargeDepth:=8) -implicitDefEqProofs [g92_tf,spec_l14Read,g92_E] <;> (try simp only [map_to_bind,some_elim,g92_O])
def g92_r:Rule:=RlO g92_E (fun a=>spec_l14Read a.1 a.2.1) g92_O
theorem g92_ok:RuleOk Tryz.prog 37 g92_r:=ok_rlo (S:=g92_S) (tf:=g92_tf) (SysOk.on ⟨g77_ok,trivial⟩ trivial) (trE_ok (ks:=[]) Tryz.func37 (by kernel_rfl)) fun a=>g92_run a.1 a.2.1 a.2.2
@[simp] theorem g92_app (y0 y1 y2 y3 y4 y5 y6 y7 y8 y9 y10 y11 y12)(q0:List TV):g92_r [(.vp ((.vs (rows y0))::(.vs (rows y1))::(.int .i64 y2)::(.bool y3)::(.int .i64 y4)::(.int .i64 y5)::(.int .i64 y6)::(.int .i64 y7)::(.int .i64 y8)::(.int .i64 y9)::(.vs (rows y10))::(.vs (rows y11))::q0)),(.int .i64 y12)] = (spec_l14Read (((y0,y1,y2,y3),(y4,y5,y6,y7),y8,y9,y10,y11)) y12).map g92_O :=
  RlO_app (enc:=g92_E) (by intro a b h; simp [g92_E,Prod.ext_iff] at h ⊢; simp [h]) (((y0,y1,y2,y3),(y4,y5,y6,y7),y8,y9,y10,y11),y12,q0)
/-! spec.ReadHeader -/
def g48_tf:TFn:=⟨(sq [bx 2 0,oo 4 (.alloc [(.int .i64 0),(.int .i64 0),.nils]),mk 5 (ki 0)] [1,2,4] (.seq (sq [ca 6 25 [.t 2],nt 7 6] [1,2,4,7] (.cond (.t 7) (.seq (.ops [oo 8 (.build [(.int .i64 0),(.int .i64 0),.nils] []),⟨none,none,(.store 3 (.t 4) (.t 8))⟩,mk 5 (ki 1)]) (.keep (kp [(4,0),(5,0)] [(1,2),(1000,1)] 0) .ret)) .skip)) (.trim [1,2,4] (.seq (.ops [mo 9 1,ca 10 37 [.t 2,.t 9],oo 11 (.ext (.t 10) 0),oo 12 (.ext (.t 10) 1),⟨none,none,(.store 3 (.t 4) (.t 11))⟩,mo 5 12]) (.keep (kp [(4,0),(5,0)] [(1,2),(3,1)] 0) .ret))))),[.cell 4 (some 3),.t 5]⟩
abbrev g48_S:=Sys.on [(25,g119_r),(37,g92_r)] []
def spec_ReadHeader (a_p:K1) (a_at:Int):Option (K2 × Int):=(spec_l12Ok a_p).bind fun r1=>if ¬(r1 = true) then some ((0,0,([]:List (Int × Int × Str))),1) else (spec_l14Read a_p a_at).bind fun r2=>some (r2.1,r2.2)
@[simp] def g48_O:(K2 × Int) → TV × List Blk:=fun r=>((.tup [(.agg [(.int .i64 r.1.1),(.int .i64 r.1.2.1),(ow 1 r.1.2.2.length)]),(.int .i64 r.2)]),[(.live 3 [[(.int .i64 r.1.1),(.int .i64 r.1.2.1),(ow 1 r.1.2.2.length)]]),(ob 3 r.1.2.2)])
def g48_E (a:K1 × Int):List TV:=[(.agg [(.vs (rows a.1.1.1)),(.vs (rows a.1.1.2.1)),(.int .i64 a.1.1.2.2.1),(.bool a.1.1.2.2.2),(.int .i64 a.1.2.1.1),(.int .i64 a.1.2.1.2.1),(.int .i64 a.1.2.1.2.2.1),(.int .i64 a.1.2.1.2.2.2),(.int .i64 a.1.2.2.1),(.int .i64 a.1.2.2.2.1),(.vs (rows a.1.2.2.2.2.1)),(.vs (rows a.1.2.2.2.2.2))]),(.int .i64 a.2)]
theorem g48_run (a_p:K1) (a_at:Int) :callFn (X g48_S) g48_tf (g48_E (a_p,a_at)) [] = (spec_ReadHeader a_p a_at).map g48_O:=by
  rw [callFn_eq]
  simp (maxSteps:=2000000) (maxDischargeDepth:=8) -implicitDefEqProofs [g48_tf,spec_ReadHeader,g48_E] <;> (try simp only [map_to_bind,some_elim,g48_O])
def g48_r:Rule:=RlO g48_E (fun a=>spec_ReadHeader a.1 a.2) g48_O
theorem g48_ok:RuleOk Tryz.prog 15 g48_r:=ok_rlo (S:=g48_S) (tf:=g48_tf) (SysOk.on ⟨g119_ok,g92_ok,trivial⟩ trivial) (trE_ok (ks:=[]) Tryz.func15 (by kernel_rfl)) fun a=>g48_run a.1 a.2
@[simp] theorem g48_app (y0 y1 y2 y3 y4 y5 y6 y7 y8 y9 y10 y11 y12):g48_r [(.agg [(.vs (rows y0)),(.vs (rows y1)),(.int .i64 y2),(.bool y3),(.int .i64 y4),(.int .i64 y5),(.int .i64 y6),(.int .i64 y7),(.int .i64 y8),(.int .i64 y9),(.vs (rows y10)),(.vs (rows y11))]),(.int .i64 y12)] = (spec_ReadHeader (((y0,y1,y2,y3),(y4,y5,y6,y7),y8,y9,y10,y11)) y12).map g48_O :=
  RlO_app (enc:=g48_E) (by intro a b h; simp [g48_E,Prod.ext_iff] at h ⊢; simp [h]) (((y0,y1,y2,y3),(y4,y5,y6,y7),y8,y9,y10,y11),y12)
/-! impl.within -/
def g110_tf:TFn:=⟨(sq [mk 6 (kb false)] [0,1,2] (.seq (.after (.ops [mo 7 0,mo 8 1,bn 9 .geq (.t 7) (.t 8),mo 10 9,⟨(some 11),(some (10,true)),(.mv (.t 0))⟩,⟨(some 12),(some (10,true)),(.mv (.t 2))⟩,⟨(some 13),(some (10,true)),(.bin .num .leq (.t 11) (.t 12))⟩,pk 14 (.t 10) (.t 13) (kb false),mo 6 14]) (kp [(6,0)] [] 0)) (.keep (kp [(6,0)] [] 0) .ret))),[.t 6]⟩
abbrev g110_S:=Sys.on [] []
def impl_within (a_n:Int) (a_low:Int) (a_high:Int):Option (Bool):=if a_n ≥ a_low then some ((decide (a_n ≤ a_high))) else some false
@[simp] def g110_O:Bool → TV × List Blk:=fun r=>((.bool r),[])
def g110_E (a:Int × Int × Int):List TV:=[(.int .i64 a.1),(.int .i64 a.2.1),(.int .i64 a.2.2)]
theorem g110_run (a_n:Int) (a_low:Int) (a_high:Int) :callFn (X g110_S) g110_tf (g110_E (a_n,a_low,a_high)) [] = (impl_within a_n a_low a_high).map g110_O:=by
  rw [callFn_eq]
  simp (maxSteps:=2000000) (maxDischargeDepth:=8) -implicitDefEqProofs [g110_tf,impl_within,g110_E] <;> (try simp only [map_to_bind,some_elim,g110_O])
def g110_r:Rule:=RlO g110_E (fun a=>impl_within a.1 a.2.1 a.2.2) g110_O
theorem g110_ok:RuleOk Tryz.prog 68 g110_r:=ok_rlo (S:=g110_S) (tf:=g110_tf) (SysOk.on trivial trivial) (trE_ok (ks:=[]) Tryz.func68 (by kernel_rfl)) fun a=>g110_run a.1 a.2.1 a.2.2
@[simp] theorem g110_app (y0 y1 y2):g110_r [(.int .i64 y0),(.int .i64 y1),(.int .i64 y2)] = (impl_within y0 y1 y2).map g110_O :=
  RlO_app (enc:=g110_E) (by intro a b h; simp [g110_E,Prod.ext_iff] at h ⊢; simp [h]) (y0,y1,y2)
/-! impl.isBlock -/
def g93_tf:TFn:=⟨(sq [mk 2 (kb false)] [0] (.seq (.ops [mo 3 0,oo 4 (.len true (.t 3)),bn 5 .eql (.t 4) (ki 64),mo 2 5]) (.keep (kp [(2,0)] [] 0) .ret))),[.t 2]⟩
abbrev g93_S:=Sys.on [] []
def impl_isBlock (a_s:Str):Option (Bool):=some ((decide ((a_s.length:Int) = 64)))
@[simp] def g93_O:Bool → TV × List Blk:=fun r=>((.bool r),[])
def g93_E (a:Str):List TV:=[(.str a)]
theorem g93_run (a_s:Str) :callFn (X g93_S) g93_tf (g93_E a_s) [] = (impl_isBlock a_s).map g93_O:=by
  rw [callFn_eq]
  simp (maxSteps:=2000000) (maxDischargeDepth:=8) -implicitDefEqProofs [g93_tf,impl_isBlock,g93_E] <;> (try simp only [map_to_bind,some_elim,g93_O])
def g93_r:Rule:=RlO g93_E (fun a=>impl_isBlock a) g93_O
theorem g93_ok:RuleOk Tryz.prog 109 g93_r:=ok_rlo (S:=g93_S) (tf:=g93_tf) (SysOk.on trivial trivial) (trE_ok (ks:=[]) Tryz.func109 (by kernel_rfl)) fun a=>g93_run a
@[simp] theorem g93_app (y0):g93_r [(.str y0)] = (impl_isBlock y0).map g93_O :=
  RlO_app (enc:=g93_E) (by intro a b h; simp [g93_E,Prod.ext_iff] at h ⊢; simp [h]) y0
/-! impl.ValidDisk.1 -/
def g31_tf:TFn:=⟨(sq [mk 2 (kb false)] [0] (.seq (.ops [mo 3 0,ca 4 109 [.t 3],nt 5 4,mo 2 5]) (.keep (kp [(2,0)] [] 0) .ret))),[.t 2]⟩
abbrev g31_S:=Sys.on [(109,g93_r)] []
def impl_ValidDisk_c1 (a_b:Str):Option (Bool):=(impl_isBlock a_b).bind fun r1=>some ((!r1))
@[simp] def g31_O:Bool → TV × List Blk:=fun r=>((.bool r),[])
def g31_E (a:Str):List TV:=[(.str a)]
theorem g31_run (a_b:Str) :callFn (X g31_S) g31_tf (g31_E a_b) [] = (impl_ValidDisk_c1 a_b).map g31_O:=by
  rw [callFn_eq]
  simp (maxSteps:=2000000) (maxDischargeDepth:=8) -implicitDefEqProofs [g31_tf,impl_ValidDisk_c1,g31_E] <;> (try simp only [map_to_bind,some_elim,g31_O])
def g31_r:Rule:=RlO g31_E (fun a=>impl_ValidDisk_c1 a) g31_O
theorem g31_ok:RuleOk Tryz.prog 134 g31_r:=ok_rlo (S:=g31_S) (tf:=g31_tf) (SysOk.on ⟨g93_ok,trivial⟩ trivial) (trE_ok (ks:=[]) Tryz.func134 (by kernel_rfl)) fun a=>g31_run a
@[simp] theorem g31_app (y0):g31_r [(.str y0)] = (impl_ValidDisk_c1 y0).map g31_O :=
  RlO_app (enc:=g31_E) (by intro a b h; simp [g31_E,Prod.ext_iff] at h ⊢; simp [h]) y0
/-! slices.IndexFunc[[]string,string] -/
def g8l1_cb:TC:=(sq [bn 9 .lss (.t 8) (.t 7)] [0,1,7,8,9] (.seq (.cond (.t 9) .skip (.keep (kp [] [] 0) (.exit 0))) (.trim [0,1,7,8] (.seq (.block 1 (sq [mo 10 8,mo 5 10] [0,1,5,7,8] (sq [mo 11 1,mo 12 0,mo 13 5,ia 14 1 12 13,ld 15 14,oo 16 (.callv (.t 11) [.t 15])] [0,1,5,7,8,16] (.cond (.t 16) (.seq (.ops [mo 17 5,mo 4 17]) (.keep (kp [(4,0)] [] 0) .ret)) .skip)))) (.trim [0,1,7,8] (.after (.ops [bn 18 .add (.t 8) (ki 1),mo 8 18]) (kp [(0,0),(1,0),(7,0),(8,0)] [] 0)))))))
def g8l1_c:TC:=.loop [0,1,7,8] g8l1_cb
def g8_tf:TFn:=⟨(sq [mk 4 (ki 0)] [0,1] (.seq (sq [mo 6 0,le 7 6,mk 8 (ki 0)] [0,1,7,8] (.block 0 (.keep (kp [(0,0),(1,0),(7,0),(8,0)] [] 0) g8l1_c))) (.trim [] (.seq (.ops [mk 4 (ki (-1))]) (.keep (kp [(4,0)] [] 0) .ret))))),[.t 4]⟩
abbrev g8_S:=Sys.on [(134,g31_r)] []
@[reducible,simp] def g8l1_F:((Unit) ⊕ (Int)) → Out:=(Sum.elim (fun t=>(.ext 0,[],[])) (fun t=>(.ret,[(4,(.int .i64 t))],[])))
def slices_IndexFunc_string_string__ValidDisk_c1_l1_b (v1:List Str) (v2:Int) (v3:Int):Option ((Int) ⊕ ((Unit) ⊕ (Int))):=if v3 < v2 then if 0 ≤ v3 then (v1[(v3).toNat]?).bind fun x4=>(impl_ValidDisk_c1 x4).bind fun r5=>if r5 = true then some (.inr (.inr v3)) else some (.inl ((IntKind.i64.wrap (v3 + 1)))) else none else some (.inr (.inl ()))
theorem g8l1_b_eq  (v1:List Str) (v2:Int) (v3:Int):X g8_S g8l1_cb (keepEnv [0,1,7,8] [(0,(.vs (rows v1))),(1,(.fn 134 [] [])),(7,(.int .i64 v2)),(8,(.int .i64 v3))]) [] = (slices_IndexFunc_string_string__ValidDisk_c1_l1_b v1 v2 v3).map (Sum.elim (fun s=>(TX.nrm,[(0,(.vs (rows v1))),(1,(.fn 134 [] [])),(7,(.int .i64 v2)),(8,(.int .i64 s))],[])) g8l1_F):=by
  simp (maxSteps:=2000000) (maxDischargeDepth:=8) -implicitDefEqProofs [g8l1_cb,slices_IndexFunc_string_string__ValidDisk_c1_l1_b] <;> (try simp only [map_to_bind,some_elim,g8l1_F])
def slices_IndexFunc_string_string__ValidDisk_c1_l1 (v1:List Str) (v2:Int) (s:Int):Option ((Unit) ⊕ (Int)):=loopO (fun s=>slices_IndexFunc_string_string__ValidDisk_c1_l1_b v1 v2 s) s
@[simp] theorem g8l1_eq (y0 y1 y2):X g8_S g8l1_c [(0,(.vs (rows y0))),(1,(.fn 134 [] [])),(7,(.int .i64 y1)),(8,(.int .i64 y2))] [] = (slices_IndexFunc_string_string__ValidDisk_c1_l1 y0 y1 y2).map g8l1_F:=by
  exact loop_X _ _ _ _ (by intro r; first | (simp; done) | (rcases r with r | r <;> simp; done) | (rcases r with r | r | r <;> simp; done) | (rcases r with r | r | r | r <;> simp)) (fun s=>g8l1_b_eq  y0 y1 s) y2
def slices_IndexFunc_string_string__ValidDisk_c1 (a_s:List Str):Option (Int):=(slices_IndexFunc_string_string__ValidDisk_c1_l1 a_s ((a_s.length:Int)) 0).bind fun r6=>Sum.elim (fun u7=>some ((-1))) (fun u8=>some u8) r6
@[simp] def g8_O:Int → TV × List Blk:=fun r=>((.int .i64 r),[])
def g8_E (a:List Str):List TV:=[(.vs (rows a)),(.fn 134 [] [])]
theorem g8_run (a_s:List Str) :callFn (X g8_S) g8_tf (g8_E a_s) [] = (slices_IndexFunc_string_string__ValidDisk_c1 a_s).map g8_O:=by
  rw [callFn_eq]
  simp (maxSteps:=2000000) (maxDischargeDepth:=8) -implicitDefEqProofs [g8_tf,slices_IndexFunc_string_string__ValidDisk_c1,g8_E] <;> (try simp only [map_to_bind,some_elim,g8_O])
def g8_r:Rule:=RlO g8_E (fun a=>slices_IndexFunc_string_string__ValidDisk_c1 a) g8_O
theorem g8_ok:RuleOk Tryz.prog 155 g8_r:=ok_rlo (S:=g8_S) (tf:=g8_tf) (SysOk.on ⟨g31_ok,trivial⟩ trivial) (trE_ok (ks:=[[0,1,7,8]]) Tryz.func155 (by kernel_rfl)) fun a=>g8_run a
@[simp] theorem g8_app (y0):g8_r [(.vs (rows y0)),(.fn 134 [] [])] = (slices_IndexFunc_string_string__ValidDisk_c1 y0).map g8_O :=
  RlO_app (enc:=g8_E) (by intro a b h; simp [g8_E,Prod.ext_iff] at h ⊢; simp [h]) y0
/-! slices.ContainsFunc[[]string,string] -/
def g7_tf:TFn:=⟨(sq [mk 4 (kb false)] [0,1] (.seq (.ops [mo 5 0,mo 6 1,ca 7 155 [.t 5,.t 6],bn 8 .geq (.t 7) (ki 0),mo 4 8]) (.keep (kp [(4,0)] [] 0) .ret))),[.t 4]⟩
abbrev g7_S:=Sys.on [(155,g8_r)] []
def slices_ContainsFunc_string_string__ValidDisk_c1 (a_s:List Str):Option (Bool):=(slices_IndexFunc_string_string__ValidDisk_c1 a_s).bind fun r1=>some ((decide (r1 ≥ 0)))
@[simp] def g7_O:Bool → TV × List Blk:=fun r=>((.bool r),[])
def g7_E (a:List Str):List TV:=[(.vs (rows a)),(.fn 134 [] [])]
theorem g7_run (a_s:List Str) :callFn (X g7_S) g7_tf (g7_E a_s) [] = (slices_ContainsFunc_string_string__ValidDisk_c1 a_s).map g7_O:=by
  rw [callFn_eq]
  simp (maxSteps:=2000000) (maxDischargeDepth:=8) -implicitDefEqProofs [g7_tf,slices_ContainsFunc_string_string__ValidDisk_c1,g7_E] <;> (try simp only [map_to_bind,some_elim,g7_O])
def g7_r:Rule:=RlO g7_E (fun a=>slices_ContainsFunc_string_string__ValidDisk_c1 a) g7_O
theorem g7_ok:RuleOk Tryz.prog 133 g7_r:=ok_rlo (S:=g7_S) (tf:=g7_tf) (SysOk.on ⟨g8_ok,trivial⟩ trivial) (trE_ok (ks:=[]) Tryz.func133 (by kernel_rfl)) fun a=>g7_run a
@[simp] theorem g7_app (y0):g7_r [(.vs (rows y0)),(.fn 134 [] [])] = (slices_ContainsFunc_string_string__ValidDisk_c1 y0).map g7_O :=
  RlO_app (enc:=g7_E) (by intro a b h; simp [g7_E,Prod.ext_iff] at h ⊢; simp [h]) y0
/-! impl.isIndex -/
def g94_tf:TFn:=⟨(sq [mk 4 (kb false)] [0,1] (.seq (.ops [mo 5 0,mo 6 1,bn 7 .sub (.t 6) (ki 1),ca 8 68 [.t 5,ki 0,.t 7],mo 4 8]) (.keep (kp [(4,0)] [] 0) .ret))),[.t 4]⟩
abbrev g94_S:=Sys.on [(68,g110_r)] []
def impl_isIndex (a_i:Int) (a_many:Int):Option (Bool):=(impl_within a_i 0 ((IntKind.i64.wrap (a_many - 1)))).bind fun r1=>some r1
@[simp] def g94_O:Bool → TV × List Blk:=fun r=>((.bool r),[])
def g94_E (a:Int × Int):List TV:=[(.int .i64 a.1),(.int .i64 a.2)]
theorem g94_run (a_i:Int) (a_many:Int) :callFn (X g94_S) g94_tf (g94_E (a_i,a_many)) [] = (impl_isIndex a_i a_many).map g94_O:=by
  rw [callFn_eq]
  simp (maxSteps:=2000000) (maxDischargeDepth:=8) -implicitDefEqProofs [g94_tf,impl_isIndex,g94_E] <;> (try simp only [map_to_bind,some_elim,g94_O])
def g94_r:Rule:=RlO g94_E (fun a=>impl_isIndex a.1 a.2) g94_O
theorem g94_ok:RuleOk Tryz.prog 137 g94_r:=ok_rlo (S:=g94_S) (tf:=g94_tf) (SysOk.on ⟨g110_ok,trivial⟩ trivial) (trE_ok (ks:=[]) Tryz.func137 (by kernel_rfl)) fun a=>g94_run a.1 a.2
@[simp] theorem g94_app (y0 y1):g94_r [(.int .i64 y0),(.int .i64 y1)] = (impl_isIndex y0 y1).map g94_O :=
  RlO_app (enc:=g94_E) (by intro a b h; simp [g94_E,Prod.ext_iff] at h ⊢; simp [h]) (y0,y1)
/-! impl.ValidDisk.2 -/
def g32_tf:TFn:=⟨(sq [bx 2 0,mk 3 (kb false)] [1,2] (.seq (.after (.ops [fa 4 0 2,ld 5 4,fa 6 0 1,ld 7 6,le 8 7,ca 9 137 [.t 5,.t 8],nt 10 9,mo 11 10,⟨(some 12),(some (11,false)),(.faddr 1 (.t 2))⟩,⟨(some 13),(some (11,false)),(.load none (.t 12))⟩,⟨(some 14),(some (11,false)),(.call 109 [.t 13])⟩,⟨(some 15),(some (11,false)),(.un .not (.t 14))⟩,pk 16 (.t 11) (kb true) (.t 15),mo 3 16]) (kp [(3,0)] [] 0)) (.keep (kp [(3,0)] [] 0) .ret))),[.t 3]⟩
abbrev g32_S:=Sys.on [(137,g94_r),(109,g93_r)] []
def impl_ValidDisk_c2 (a_p:Int × Str) (a_p':List Str) (a_p'':List (Int × Str)) (a_p''':Int) (a_p'''':Bool):Option (Bool):=(impl_isIndex a_p.1 ((a_p'.length:Int))).bind fun r1=>if ¬(r1 = true) then some true else (impl_isBlock a_p.2).bind fun r2=>some ((!r2))
@[simp] def g32_O:Bool → TV × List Blk:=fun r=>((.bool r),[])
def g32_E (a:(Int × Str) × List Str × (List (Int × Str)) × Int × Bool):List TV:=[(.agg [(.int .i64 a.1.1),(.str a.1.2)]),(.vp [(.vs (rows a.2.1)),(.vs (rows a.2.2.1)),(.int .i64 a.2.2.2.1),(.bool a.2.2.2.2)])]
theorem g32_run (a_p:Int × Str) (a_p':List Str) (a_p'':List (Int × Str)) (a_p''':Int) (a_p'''':Bool) :callFn (X g32_S) g32_tf (g32_E (a_p,a_p',a_p'',a_p''',a_p'''')) [] = (impl_ValidDisk_c2 a_p a_p' a_p'' a_p''' a_p'''').map g32_O:=by
  rw [callFn_eq]
  simp (maxSteps:=2000000) (maxDischargeDepth:=8) -implicitDefEqProofs [g32_tf,impl_ValidDisk_c2,g32_E] <;> (try simp only [map_to_bind,some_elim,g32_O])
def g32_r:Rule:=RlO g32_E (fun a=>impl_ValidDisk_c2 a.1 a.2.1 a.2.2.1 a.2.2.2.1 a.2.2.2.2) g32_O
theorem g32_ok:RuleOk Tryz.prog 136 g32_r:=ok_rlo (S:=g32_S) (tf:=g32_tf) (SysOk.on ⟨g94_ok,g93_ok,trivial⟩ trivial) (trE_ok (ks:=[]) Tryz.func136 (by kernel_rfl)) fun a=>g32_run a.1 a.2.1 a.2.2.1 a.2.2.2.1 a.2.2.2.2
@[simp] theorem g32_app (y0 y1 y2 y3 y4 y5):g32_r [(.agg [(.int .i64 y0),(.str y1)]),(.vp [(.vs (rows y2)),(.vs (rows y3)),(.int .i64 y4),(.bool y5)])] = (impl_ValidDisk_c2 ((y0,y1)) y2 y3 y4 y5).map g32_O :=
  RlO_app (enc:=g32_E) (by intro a b h; simp [g32_E,Prod.ext_iff] at h ⊢; simp [h]) ((y0,y1),y2,y3,y4,y5)
/-! slices.IndexFunc[[]impl.Put,impl.Put] -/
def g6l1_cb:TC:=(sq [bn 9 .lss (.t 8) (.t 7)] [0,1,7,8,9] (.seq (.cond (.t 9) .skip (.keep (kp [] [] 0) (.exit 0))) (.trim [0,1,7,8] (.seq (.block 1 (sq [mo 10 8,mo 5 10] [0,1,5,7,8] (sq [mo 11 1,mo 12 0,mo 13 5,ia 14 2 12 13,ln 15 2 14,oo 16 (.callv (.t 11) [.t 15])] [0,1,5,7,8,16] (.cond (.t 16) (.seq (.ops [mo 17 5,mo 4 17]) (.keep (kp [(4,0)] [] 0) .ret)) .skip)))) (.trim [0,1,7,8] (.after (.ops [bn 18 .add (.t 8) (ki 1),mo 8 18]) (kp [(0,0),(1,0),(7,0),(8,0)] [] 0)))))))
def g6l1_c:TC:=.loop [0,1,7,8] g6l1_cb
def g6_tf:TFn:=⟨(sq [mk 4 (ki 0)] [0,1] (.seq (sq [mo 6 0,le 7 6,mk 8 (ki 0)] [0,1,7,8] (.block 0 (.keep (kp [(0,0),(1,0),(7,0),(8,0)] [] 0) g6l1_c))) (.trim [] (.seq (.ops [mk 4 (ki (-1))]) (.keep (kp [(4,0)] [] 0) .ret))))),[.t 4]⟩
abbrev g6_S:=Sys.on [(136,g32_r)] []
@[reducible,simp] def g6l1_F:((Unit) ⊕ (Int)) → Out:=(Sum.elim (fun t=>(.ext 0,[],[])) (fun t=>(.ret,[(4,(.int .i64 t))],[])))
def slices_IndexFunc_impl_Put_impl_Put__ValidDisk_c2_l1_b (v1:List (Int × Str)) (v2:List Str) (v3:List (Int × Str)) (v4:Int) (v5:Bool) (v6:Int) (v7:Int):Option ((Int) ⊕ ((Unit) ⊕ (Int))):=if v7 < v6 then if 0 ≤ v7 then (v1[(v7).toNat]?).bind fun x8=>(impl_ValidDisk_c2 x8 v2 v3 v4 v5).bind fun r9=>if r9 = true then some (.inr (.inr v7)) else some (.inl ((IntKind.i64.wrap (v7 + 1)))) else none else some (.inr (.inl ()))
theorem g6l1_b_eq  (v1:List (Int × Str)) (v2:List Str) (v3:List (Int × Str)) (v4:Int) (v5:Bool) (v6:Int) (v7:Int):X g6_S g6l1_cb (keepEnv [0,1,7,8] [(0,(.vs (rows v1))),(1,(.fn 136 [] [(.vp [(.vs (rows v2)),(.vs (rows v3)),(.int .i64 v4),(.bool v5)])])),(7,(.int .i64 v6)),(8,(.int .i64 v7))]) [] = (slices_IndexFunc_impl_Put_impl_Put__ValidDisk_c2_l1_b v1 v2 v3 v4 v5 v6 v7).map (Sum.elim (fun s=>(TX.nrm,[(0,(.vs (rows v1))),(1,(.fn 136 [] [(.vp [(.vs (rows v2)),(.vs (rows v3)),(.int .i64 v4),(.bool v5)])])),(7,(.int .i64 v6)),(8,(.int .i64 s))],[])) g6l1_F):=by
  simp (maxSteps:=2000000) (maxDischargeDepth:=8) -implicitDefEqProofs [g6l1_cb,slices_IndexFunc_impl_Put_impl_Put__ValidDisk_c2_l1_b] <;> (try simp only [map_to_bind,some_elim,g6l1_F])
def slices_IndexFunc_impl_Put_impl_Put__ValidDisk_c2_l1 (v1:List (Int × Str)) (v2:List Str) (v3:List (Int × Str)) (v4:Int) (v5:Bool) (v6:Int) (s:Int):Option ((Unit) ⊕ (Int)):=loopO (fun s=>slices_IndexFunc_impl_Put_impl_Put__ValidDisk_c2_l1_b v1 v2 v3 v4 v5 v6 s) s
@[simp] theorem g6l1_eq (y0 y1 y2 y3 y4 y5 y6):X g6_S g6l1_c [(0,(.vs (rows y0))),(1,(.fn 136 [] [(.vp [(.vs (rows y1)),(.vs (rows y2)),(.int .i64 y3),(.bool y4)])])),(7,(.int .i64 y5)),(8,(.int .i64 y6))] [] = (slices_IndexFunc_impl_Put_impl_Put__ValidDisk_c2_l1 y0 y1 y2 y3 y4 y5 y6).map g6l1_F:=by
  exact loop_X _ _ _ _ (by intro r; first | (simp; done) | (rcases r with r | r <;> simp; done) | (rcases r with r | r | r <;> simp; done) | (rcases r with r | r | r | r <;> simp)) (fun s=>g6l1_b_eq  y0 y1 y2 y3 y4 y5 s) y6
def slices_IndexFunc_impl_Put_impl_Put__ValidDisk_c2 (a_s:List (Int × Str)) (a_f:List Str) (a_f':List (Int × Str)) (a_f'':Int) (a_f''':Bool):Option (Int):=(slices_IndexFunc_impl_Put_impl_Put__ValidDisk_c2_l1 a_s a_f a_f' a_f'' a_f''' ((a_s.length:Int)) 0).bind fun r10=>Sum.elim (fun u11=>some ((-1))) (fun u12=>some u12) r10
@[simp] def g6_O:Int → TV × List Blk:=fun r=>((.int .i64 r),[])
def g6_E (a:(List (Int × Str)) × List Str × (List (Int × Str)) × Int × Bool):List TV:=[(.vs (rows a.1)),(.fn 136 [] [(.vp [(.vs (rows a.2.1)),(.vs (rows a.2.2.1)),(.int .i64 a.2.2.2.1),(.bool a.2.2.2.2)])])]
theorem g6_run (a_s:List (Int × Str)) (a_f:List Str) (a_f':List (Int × Str)) (a_f'':Int) (a_f''':Bool) :callFn (X g6_S) g6_tf (g6_E (a_s,a_f,a_f',a_f'',a_f''')) [] = (slices_IndexFunc_impl_Put_impl_Put__ValidDisk_c2 a_s a_f a_f' a_f'' a_f''').map g6_O:=by
  rw [callFn_eq]
  simp (maxSteps:=2000000) (maxDischargeDepth:=8) -implicitDefEqProofs [g6_tf,slices_IndexFunc_impl_Put_impl_Put__ValidDisk_c2,g6_E] <;> (try simp only [map_to_bind,some_elim,g6_O])
def g6_r:Rule:=RlO g6_E (fun a=>slices_IndexFunc_impl_Put_impl_Put__ValidDisk_c2 a.1 a.2.1 a.2.2.1 a.2.2.2.1 a.2.2.2.2) g6_O
theorem g6_ok:RuleOk Tryz.prog 156 g6_r:=ok_rlo (S:=g6_S) (tf:=g6_tf) (SysOk.on ⟨g32_ok,trivial⟩ trivial) (trE_ok (ks:=[[0,1,7,8]]) Tryz.func156 (by kernel_rfl)) fun a=>g6_run a.1 a.2.1 a.2.2.1 a.2.2.2.1 a.2.2.2.2
@[simp] theorem g6_app (y0 y1 y2 y3 y4):g6_r [(.vs (rows y0)),(.fn 136 [] [(.vp [(.vs (rows y1)),(.vs (rows y2)),(.int .i64 y3),(.bool y4)])])] = (slices_IndexFunc_impl_Put_impl_Put__ValidDisk_c2 y0 y1 y2 y3 y4).map g6_O :=
  RlO_app (enc:=g6_E) (by intro a b h; simp [g6_E,Prod.ext_iff] at h ⊢; simp [h]) (y0,y1,y2,y3,y4)
/-! slices.ContainsFunc[[]impl.Put,impl.Put] -/
def g5_tf:TFn:=⟨(sq [mk 4 (kb false)] [0,1] (.seq (.ops [mo 5 0,mo 6 1,ca 7 156 [.t 5,.t 6],bn 8 .geq (.t 7) (ki 0),mo 4 8]) (.keep (kp [(4,0)] [] 0) .ret))),[.t 4]⟩
abbrev g5_S:=Sys.on [(156,g6_r)] []
def slices_ContainsFunc_impl_Put_impl_Put__ValidDisk_c2 (a_s:List (Int × Str)) (a_f:List Str) (a_f':List (Int × Str)) (a_f'':Int) (a_f''':Bool):Option (Bool):=(slices_IndexFunc_impl_Put_impl_Put__ValidDisk_c2 a_s a_f a_f' a_f'' a_f''').bind fun r1=>some ((decide (r1 ≥ 0)))
@[simp] def g5_O:Bool → TV × List Blk:=fun r=>((.bool r),[])
def g5_E (a:(List (Int × Str)) × List Str × (List (Int × Str)) × Int × Bool):List TV:=[(.vs (rows a.1)),(.fn 136 [] [(.vp [(.vs (rows a.2.1)),(.vs (rows a.2.2.1)),(.int .i64 a.2.2.2.1),(.bool a.2.2.2.2)])])]
theorem g5_run (a_s:List (Int × Str)) (a_f:List Str) (a_f':List (Int × Str)) (a_f'':Int) (a_f''':Bool) :callFn (X g5_S) g5_tf (g5_E (a_s,a_f,a_f',a_f'',a_f''')) [] = (slices_ContainsFunc_impl_Put_impl_Put__ValidDisk_c2 a_s a_f a_f' a_f'' a_f''').map g5_O:=by
  rw [callFn_eq]
  simp (maxSteps:=2000000) (maxDischargeDepth:=8) -implicitDefEqProofs [g5_tf,slices_ContainsFunc_impl_Put_impl_Put__ValidDisk_c2,g5_E] <;> (try simp only [map_to_bind,some_elim,g5_O])
def g5_r:Rule:=RlO g5_E (fun a=>slices_ContainsFunc_impl_Put_impl_Put__ValidDisk_c2 a.1 a.2.1 a.2.2.1 a.2.2.2.1 a.2.2.2.2) g5_O
theorem g5_ok:RuleOk Tryz.prog 135 g5_r:=ok_rlo (S:=g5_S) (tf:=g5_tf) (SysOk.on ⟨g6_ok,trivial⟩ trivial) (trE_ok (ks:=[]) Tryz.func135 (by kernel_rfl)) fun a=>g5_run a.1 a.2.1 a.2.2.1 a.2.2.2.1 a.2.2.2.2
@[simp] theorem g5_app (y0 y1 y2 y3 y4):g5_r [(.vs (rows y0)),(.fn 136 [] [(.vp [(.vs (rows y1)),(.vs (rows y2)),(.int .i64 y3),(.bool y4)])])] = (slices_ContainsFunc_impl_Put_impl_Put__ValidDisk_c2 y0 y1 y2 y3 y4).map g5_O :=
  RlO_app (enc:=g5_E) (by intro a b h; simp [g5_E,Prod.ext_iff] at h ⊢; simp [h]) (y0,y1,y2,y3,y4)
/-! impl.ValidDisk -/
def g64_tf:TFn:=⟨(sq [bx 1 0,mk 2 (kb false)] [1] (.seq (sq [fa 3 0 1,ld 4 3,le 5 4,ca 6 68 [.t 5,ki 16,ki 256],nt 7 6,mo 8 7,⟨(some 9),(some (8,false)),(.faddr 1 (.t 1))⟩,⟨(some 10),(some (8,false)),(.load none (.t 9))⟩,⟨(some 11),(some (8,false)),(.len false (.t 10))⟩,⟨(some 12),(some (8,false)),(.bin .num .gtr (.t 11) (ki 600))⟩,pk 13 (.t 8) (kb true) (.t 12),mo 14 13,⟨(some 15),(some (14,false)),(.faddr 2 (.t 1))⟩,⟨(some 16),(some (14,false)),(.load none (.t 15))⟩,⟨(some 17),(some (14,false)),(.call 68 [.t 16,(ki (-1)),ki 100000])⟩,⟨(some 18),(some (14,false)),(.un .not (.t 17))⟩,pk 19 (.t 14) (kb true) (.t 18)] [1,19] (.cond (.t 19) (.seq (.ops [mk 2 (kb false)]) (.keep (kp [(2,0)] [] 0) .ret)) .skip)) (.trim [1] (.seq (sq [fa 20 0 1,ld 21 20,oo 22 (.call 133 [.t 21,(.c (.fn 134 [] []))])] [1,22] (.cond (.t 22) (.seq (.ops [mk 2 (kb false)]) (.keep (kp [(2,0)] [] 0) .ret)) .skip)) (.trim [1] (.seq (.ops [fa 23 1 1,ld 24 23,oo 25 (.mkfn 136 [] [.t 1]),ca 26 135 [.t 24,.t 25],nt 27 26,mo 2 27]) (.keep (kp [(2,0)] [] 0) .ret))))))),[.t 2]⟩
abbrev g64_S:=Sys.on [(68,g110_r),(133,g7_r),(135,g5_r)] []
def impl_ValidDisk (a_d:K0):Option (Bool):=(impl_within ((a_d.1.length:Int)) 16 256).bind fun r1=>if ¬(r1 = true) then some false else if (a_d.2.1.length:Int) > 600 then some false else (impl_within a_d.2.2.1 ((-1)) 100000).bind fun r2=>if ¬(r2 = true) then some false else (slices_ContainsFunc_string_string__ValidDisk_c1 a_d.1).bind fun r3=>if r3 = true then some false else (slices_ContainsFunc_impl_Put_impl_Put__ValidDisk_c2 a_d.2.1 a_d.1 a_d.2.1 a_d.2.2.1 a_d.2.2.2).bind fun r4=>some ((!r4))
@[simp] def g64_O:Bool → TV × List Blk:=fun r=>((.bool r),[])
def g64_E (a:K0):List TV:=[(.agg [(.vs (rows a.1)),(.vs (rows a.2.1)),(.int .i64 a.2.2.1),(.bool a.2.2.2)])]
theorem g64_run (a_d:K0) :callFn (X g64_S) g64_tf (g64_E a_d) [] = (impl_ValidDisk a_d).map g64_O:=by
  rw [callFn_eq]
  simp (maxSteps:=2000000) (maxDischargeDepth:=8) -implicitDefEqProofs [g64_tf,impl_ValidDisk,g64_E] <;> (try simp only [map_to_bind,some_elim,g64_O])
def g64_r:Rule:=RlO g64_E (fun a=>impl_ValidDisk a) g64_O
theorem g64_ok:RuleOk Tryz.prog 107 g64_r:=ok_rlo (S:=g64_S) (tf:=g64_tf) (SysOk.on ⟨g110_ok,g7_ok,g5_ok,trivial⟩ trivial) (trE_ok (ks:=[]) Tryz.func107 (by kernel_rfl)) fun a=>g64_run a
@[simp] theorem g64_app (y0 y1 y2 y3):g64_r [(.agg [(.vs (rows y0)),(.vs (rows y1)),(.int .i64 y2),(.bool y3)])] = (impl_ValidDisk ((y0,y1,y2,y3))).map g64_O :=
  RlO_app (enc:=g64_E) (by intro a b h; simp [g64_E,Prod.ext_iff] at h ⊢; simp [h]) ((y0,y1,y2,y3))
/-! impl.ValidSuper -/
def g49_tf:TFn:=⟨(sq [bx 1 0,mk 2 (kb false)] [1] (.seq (.after (.ops [fa 3 0 1,ld 4 3,ca 5 68 [.t 4,ki 16,ki 256],mo 6 5,⟨(some 7),(some (6,true)),(.faddr 1 (.t 1))⟩,⟨(some 8),(some (6,true)),(.load none (.t 7))⟩,⟨(some 9),(some (6,true)),(.faddr 0 (.t 1))⟩,⟨(some 10),(some (6,true)),(.load none (.t 9))⟩,⟨(some 11),(some (6,true)),(.bin .num .sub (.t 10) (ki 4))⟩,⟨(some 12),(some (6,true)),(.mm false (ki 64) (.t 11))⟩,⟨(some 13),(some (6,true)),(.call 68 [.t 8,ki 8,.t 12])⟩,pk 14 (.t 6) (.t 13) (kb false),mo 15 14,⟨(some 16),(some (15,true)),(.faddr 2 (.t 1))⟩,⟨(some 17),(some (15,true)),(.load none (.t 16))⟩,⟨(some 18),(some (15,true)),(.call 68 [.t 17,ki 0,ki 1000000000000])⟩,pk 19 (.t 15) (.t 18) (kb false),mo 20 19,⟨(some 21),(some (20,true)),(.faddr 3 (.t 1))⟩,⟨(some 22),(some (20,true)),(.load none (.t 21))⟩,⟨(some 23),(some (20,true)),(.call 68 [.t 22,ki 0,ki 1000000000000])⟩,pk 24 (.t 20) (.t 23) (kb false),mo 2 24]) (kp [(2,0)] [] 0)) (.keep (kp [(2,0)] [] 0) .ret))),[.t 2]⟩
abbrev g49_S:=Sys.on [(68,g110_r)] []
def impl_ValidSuper (a_s:Int × Int × Int × Int):Option (Bool):=(impl_within a_s.1 16 256).bind fun r1=>if r1 = true then (impl_within a_s.2.1 8 ((min 64 ((IntKind.i64.wrap (a_s.1 - 4)))))).bind fun r2=>if r2 = true then (impl_within a_s.2.2.1 0 1000000000000).bind fun r3=>if r3 = true then (impl_within a_s.2.2.2 0 1000000000000).bind fun r4=>some r4 else some false else some false else some false
@[simp] def g49_O:Bool → TV × List Blk:=fun r=>((.bool r),[])
def g49_E (a:(Int × Int × Int × Int)):List TV:=[(.agg [(.int .i64 a.1),(.int .i64 a.2.1),(.int .i64 a.2.2.1),(.int .i64 a.2.2.2)])]
theorem g49_run (a_s:Int × Int × Int × Int) :callFn (X g49_S) g49_tf (g49_E a_s) [] = (impl_ValidSuper a_s).map g49_O:=by
  rw [callFn_eq]
  simp (maxSteps:=2000000) (maxDischargeDepth:=8) -implicitDefEqProofs [g49_tf,impl_ValidSuper,g49_E] <;> (try simp only [map_to_bind,some_elim,g49_O])
def g49_r:Rule:=RlO g49_E (fun a=>impl_ValidSuper a) g49_O
theorem g49_ok:RuleOk Tryz.prog 108 g49_r:=ok_rlo (S:=g49_S) (tf:=g49_tf) (SysOk.on ⟨g110_ok,trivial⟩ trivial) (trE_ok (ks:=[]) Tryz.func108 (by kernel_rfl)) fun a=>g49_run a
@[simp] theorem g49_app (y0 y1 y2 y3):g49_r [(.agg [(.int .i64 y0),(.int .i64 y1),(.int .i64 y2),(.int .i64 y3)])] = (impl_ValidSuper ((y0,y1,y2,y3))).map g49_O :=
  RlO_app (enc:=g49_E) (by intro a b h; simp [g49_E,Prod.ext_iff] at h ⊢; simp [h]) ((y0,y1,y2,y3))
/-! impl.superFits -/
def g65_tf:TFn:=⟨(sq [bx 2 0,bx 3 1,mk 4 (kb false)] [2,3] (.seq (.after (.ops [ln 5 4 2,ca 6 107 [.t 5],mo 7 6,⟨(some 8),(some (7,true)),(.load (some 4) (.t 3))⟩,⟨(some 9),(some (7,true)),(.call 108 [.t 8])⟩,pk 10 (.t 7) (.t 9) (kb false),mo 11 10,⟨(some 12),(some (11,true)),(.faddr 0 (.t 3))⟩,⟨(some 13),(some (11,true)),(.load none (.t 12))⟩,⟨(some 14),(some (11,true)),(.faddr 0 (.t 2))⟩,⟨(some 15),(some (11,true)),(.load none (.t 14))⟩,⟨(some 16),(some (11,true)),(.len false (.t 15))⟩,⟨(some 17),(some (11,true)),(.bin .num .eql (.t 13) (.t 16))⟩,pk 18 (.t 11) (.t 17) (kb false),mo 4 18]) (kp [(4,0)] [] 0)) (.keep (kp [(4,0)] [] 0) .ret))),[.t 4]⟩
abbrev g65_S:=Sys.on [(107,g64_r),(108,g49_r)] []
def impl_superFits (a_d:K0) (a_s:Int × Int × Int × Int):Option (Bool):=(impl_ValidDisk a_d).bind fun r1=>if r1 = true then (impl_ValidSuper a_s).bind fun r2=>if r2 = true then some ((decide (a_s.1 = (a_d.1.length:Int)))) else some false else some false
@[simp] def g65_O:Bool → TV × List Blk:=fun r=>((.bool r),[])
def g65_E (a:K0 × (Int × Int × Int × Int)):List TV:=[(.agg [(.vs (rows a.1.1)),(.vs (rows a.1.2.1)),(.int .i64 a.1.2.2.1),(.bool a.1.2.2.2)]),(.agg [(.int .i64 a.2.1),(.int .i64 a.2.2.1),(.int .i64 a.2.2.2.1),(.int .i64 a.2.2.2.2)])]
theorem g65_run (a_d:K0) (a_s:Int × Int × Int × Int) :callFn (X g65_S) g65_tf (g65_E (a_d,a_s)) [] = (impl_superFits a_d a_s).map g65_O:=by
  rw [callFn_eq]
  simp (maxSteps:=2000000) (maxDischargeDepth:=8) -implicitDefEqProofs [g65_tf,impl_superFits,g65_E] <;> (try simp only [map_to_bind,some_elim,g65_O])
def g65_r:Rule:=RlO g65_E (fun a=>impl_superFits a.1 a.2) g65_O
theorem g65_ok:RuleOk Tryz.prog 67 g65_r:=ok_rlo (S:=g65_S) (tf:=g65_tf) (SysOk.on ⟨g64_ok,g49_ok,trivial⟩ trivial) (trE_ok (ks:=[]) Tryz.func67 (by kernel_rfl)) fun a=>g65_run a.1 a.2
@[simp] theorem g65_app (y0 y1 y2 y3 y4 y5 y6 y7):g65_r [(.agg [(.vs (rows y0)),(.vs (rows y1)),(.int .i64 y2),(.bool y3)]),(.agg [(.int .i64 y4),(.int .i64 y5),(.int .i64 y6),(.int .i64 y7)])] = (impl_superFits ((y0,y1,y2,y3)) ((y4,y5,y6,y7))).map g65_O :=
  RlO_app (enc:=g65_E) (by intro a b h; simp [g65_E,Prod.ext_iff] at h ⊢; simp [h]) ((y0,y1,y2,y3),(y4,y5,y6,y7))
/-! impl.ValidPages -/
def g50l1_cb:TC:=(sq [bn 8 .lss (.t 7) (.t 6)] [0,5,6,7,8] (.seq (.cond (.t 8) .skip (.keep (kp [(0,0)] [] 0) (.exit 0))) (.trim [0,5,6,7] (.seq (.block 1 (sq [mo 9 7,ia 10 2 5 7,ln 11 2 10,oo 4 (.alloc [(.int .i64 0),(.str [])]),mo 3 9,⟨none,none,(.store 2 (.t 4) (.t 11))⟩] [0,3,4,5,6,7] (.seq (.draw [([],fa 12 0 4),([0],ld 13 12),([0,1],ca 14 68 [.t 13,ki 0,ki 255]),([0,1,2],nt 15 14),([0,1,2,3],mo 16 15),([0,1,2,3,4],⟨(some 17),(some (16,false)),(.mv (.t 3))⟩),([0,1,2,3,4,5],⟨(some 18),(some (16,false)),(.bin .num .gtr (.t 17) (ki 0))⟩),([0,1,2,3,4,5,6],⟨(some 19),(some (16,false)),(.mv (.t 18))⟩),([0,1,2,3,4,5,6,7],⟨(some 20),(some (19,true)),(.faddr 0 (.t 4))⟩),([0,1,2,3,4,5,6,7,8],⟨(some 21),(some (19,true)),(.load none (.t 20))⟩),([0,1,2,3,4,5,6,7],⟨(some 22),(some (19,true)),(.mv (.t 0))⟩),([0,1,2,3,4,5,6,7],⟨(some 23),(some (19,true)),(.mv (.t 3))⟩),([0,1,2,3,4,5,6,7,11],⟨(some 24),(some (19,true)),(.bin .num .sub (.t 23) (ki 1))⟩),([0,1,2,3,4,5,6,7,10,11,12],⟨(some 25),(some (19,true)),(.iaddr 2 (.t 22) (.t 24))⟩),([0,1,2,3,4,5,6,7,10,11,12,13],⟨(some 26),(some (19,true)),(.faddr 0 (.t 25))⟩),([0,1,2,3,4,5,6,7,10,11,12,13,14],⟨(some 27),(some (19,true)),(.load none (.t 26))⟩)] [⟨(some 28),(some (19,true)),(.bin .num .leq (.t 21) (.t 27))⟩,⟨(some 29),(some (16,false)),(.pick (.t 19) (.t 28) (kb false))⟩,pk 30 (.t 16) (kb true) (.t 29),mo 31 30,⟨(some 32),(some (31,false)),(.faddr 1 (.t 4))⟩,⟨(some 33),(some (31,false)),(.load none (.t 32))⟩,⟨(some 34),(some (31,false)),(.call 109 [.t 33])⟩,⟨(some 35),(some (31,false)),(.un .not (.t 34))⟩,pk 36 (.t 31) (kb true) (.t 35)]) (.trim [0,5,6,7,36] (.cond (.t 36) (.seq (.ops [mk 2 (kb false)]) (.keep (kp [(2,0)] [] 0) .ret)) (.keep (kp [(0,0),(5,0),(6,0),(7,0)] [] 0) .skip)))))) (.trim [0,5,6,7] (.after (.ops [bn 37 .add (.t 7) (ki 1),mo 7 37]) (kp [(0,0),(5,0),(6,0),(7,0)] [] 0)))))))
def g50l1_c:TC:=.loop [0,5,6,7] g50l1_cb
def g50_tf:TFn:=⟨(sq [mk 2 (kb false)] [0] (.seq (sq [mo 5 0,le 6 5,mk 7 (ki 0)] [0,5,6,7] (.block 0 (.keep (kp [(0,0),(5,0),(6,0),(7,0)] [] 0) g50l1_c))) (.trim [0] (.seq (.ops [mo 38 0,le 39 38,bn 40 .leq (.t 39) (ki 256),mo 2 40]) (.keep (kp [(2,0)] [] 0) .ret))))),[.t 2]⟩
abbrev g50_S:=Sys.on [(68,g110_r),(109,g93_r)] []
@[reducible,simp] def g50l1_F:(((List (Int × Str))) ⊕ (Bool)) → Out:=(Sum.elim (fun t=>(.ext 0,[(0,(.vs (rows t)))],[])) (fun t=>(.ret,[(2,(.bool t))],[])))
def impl_ValidPages_l1_b (v1:List (Int × Str)) (v2:List (Int × Str)) (v3:Int) (v4:Int):Option ((Int) ⊕ (((List (Int × Str))) ⊕ (Bool))):=if v4 < v3 then if 0 ≤ v4 then (v2[(v4).toNat]?).bind fun x5=>(impl_within x5.1 0 255).bind fun r6=>if ¬(r6 = true) then some (.inr (.inr false)) else if v4 > 0 then if 0 ≤ (IntKind.i64.wrap (v4 - 1)) then (v1[((IntKind.i64.wrap (v4 - 1))).toNat]?).bind fun x7=>if x5.1 ≤ x7.1 then some (.inr (.inr false)) else (impl_isBlock x5.2).bind fun r8=>if ¬(r8 = true) then some (.inr (.inr false)) else some (.inl ((IntKind.i64.wrap (v4 + 1)))) else none else (impl_isBlock x5.2).bind fun r9=>if ¬(r9 = true) then some (.inr (.inr false)) else some (.inl ((IntKind.i64.wrap (v4 + 1)))) else none else some (.inr (.inl v1))
theorem g50l1_b_eq  (v1:List (Int × Str)) (v2:List (Int × Str)) (v3:Int) (v4:Int):X g50_S g50l1_cb (keepEnv [0,5,6,7] [(0,(.vs (rows v1))),(5,(.vs (rows v2))),(6,(.int .i64 v3)),(7,(.int .i64 v4))]) [] = (impl_ValidPages_l1_b v1 v2 v3 v4).map (Sum.elim (fun s=>(TX.nrm,[(0,(.vs (rows v1))),(5,(.vs (rows v2))),(6,(.int .i64 v3)),(7,(.int .i64 s))],[])) g50l1_F):=by
  simp (maxSteps:=2000000) (maxDischargeDepth:=8) -implicitDefEqProofs [g50l1_cb,impl_ValidPages_l1_b] <;> (try simp only [map_to_bind,some_elim,g50l1_F])
def impl_ValidPages_l1 (v1:List (Int × Str)) (v2:List (Int × Str)) (v3:Int) (s:Int):Option (((List (Int × Str))) ⊕ (Bool)):=loopO (fun s=>impl_ValidPages_l1_b v1 v2 v3 s) s
@[simp] theorem g50l1_eq (y0 y1 y2 y3):X g50_S g50l1_c [(0,(.vs (rows y0))),(5,(.vs (rows y1))),(6,(.int .i64 y2)),(7,(.int .i64 y3))] [] = (impl_ValidPages_l1 y0 y1 y2 y3).map g50l1_F:=by
  exact loop_X _ _ _ _ (by intro r; first | (simp; done) | (rcases r with r | r <;> simp; done) | (rcases r with r | r | r <;> simp; done) | (rcases r with r | r | r | r <;> simp)) (fun s=>g50l1_b_eq  y0 y1 y2 s) y3
def impl_ValidPages (a_list:List (Int × Str)):Option (Bool):=(impl_ValidPages_l1 a_list a_list ((a_list.length:Int)) 0).bind fun r10=>Sum.elim (fun u11=>some ((decide ((u11.length:Int) ≤ 256)))) (fun u12=>some u12) r10
@[simp] def g50_O:Bool → TV × List Blk:=fun r=>((.bool r),[])
def g50_E (a:(List (Int × Str))):List TV:=[(.vs (rows a))]
theorem g50_run (a_list:List (Int × Str)) :callFn (X g50_S) g50_tf (g50_E a_list) [] = (impl_ValidPages a_list).map g50_O:=by
  rw [callFn_eq]
  simp (maxSteps:=2000000) (maxDischargeDepth:=8) -implicitDefEqProofs [g50_tf,impl_ValidPages,g50_E] <;> (try simp only [map_to_bind,some_elim,g50_O])
def g50_r:Rule:=RlO g50_E (fun a=>impl_ValidPages a) g50_O
theorem g50_ok:RuleOk Tryz.prog 69 g50_r:=ok_rlo (S:=g50_S) (tf:=g50_tf) (SysOk.on ⟨g110_ok,g93_ok,trivial⟩ trivial) (trE_ok (ks:=[[0,5,6,7],[16]]) Tryz.func69 (by kernel_rfl)) fun a=>g50_run a
@[simp] theorem g50_app (y0):g50_r [(.vs (rows y0))] = (impl_ValidPages y0).map g50_O :=
  RlO_app (enc:=g50_E) (by intro a b h; simp [g50_E,Prod.ext_iff] at h ⊢; simp [h]) y0
/-! impl.AreaBlock -/
def g66_tf:TFn:=⟨(sq [bx 1 0,mk 2 (ki 0)] [1] (.seq (sq [ln 3 4 1,ca 4 108 [.t 3],nt 5 4] [1,5] (.cond (.t 5) (.seq (.ops [mk 2 (ki 0)]) (.keep (kp [(2,0)] [] 0) .ret)) .skip)) (.trim [1] (.seq (.ops [fa 6 1 1,ld 7 6,bn 8 .add (ki 2) (.t 7),mo 2 8]) (.keep (kp [(2,0)] [] 0) .ret))))),[.t 2]⟩
abbrev g66_S:=Sys.on [(108,g49_r)] []
def impl_AreaBlock (a_s:Int × Int × Int × Int):Option (Int):=(impl_ValidSuper a_s).bind fun r1=>if ¬(r1 = true) then some 0 else some ((IntKind.i64.wrap (2 + a_s.2.1)))
@[simp] def g66_O:Int → TV × List Blk:=fun r=>((.int .i64 r),[])
def g66_E (a:(Int × Int × Int × Int)):List TV:=[(.agg [(.int .i64 a.1),(.int .i64 a.2.1),(.int .i64 a.2.2.1),(.int .i64 a.2.2.2)])]
theorem g66_run (a_s:Int × Int × Int × Int) :callFn (X g66_S) g66_tf (g66_E a_s) [] = (impl_AreaBlock a_s).map g66_O:=by
  rw [callFn_eq]
  simp (maxSteps:=2000000) (maxDischargeDepth:=8) -implicitDefEqProofs [g66_tf,impl_AreaBlock,g66_E] <;> (try simp only [map_to_bind,some_elim,g66_O])
def g66_r:Rule:=RlO g66_E (fun a=>impl_AreaBlock a) g66_O
theorem g66_ok:RuleOk Tryz.prog 112 g66_r:=ok_rlo (S:=g66_S) (tf:=g66_tf) (SysOk.on ⟨g49_ok,trivial⟩ trivial) (trE_ok (ks:=[]) Tryz.func112 (by kernel_rfl)) fun a=>g66_run a
@[simp] theorem g66_app (y0 y1 y2 y3):g66_r [(.agg [(.int .i64 y0),(.int .i64 y1),(.int .i64 y2),(.int .i64 y3)])] = (impl_AreaBlock ((y0,y1,y2,y3))).map g66_O :=
  RlO_app (enc:=g66_E) (by intro a b h; simp [g66_E,Prod.ext_iff] at h ⊢; simp [h]) ((y0,y1,y2,y3))
/-! (impl.Super).inArea.1 -/
def g22_tf:TFn:=⟨(sq [bx 2 0,mk 3 (kb false)] [1,2] (.seq (.draw [([],fa 4 0 2),([0],ld 5 4),([],ln 6 4 1),([2],ca 7 112 [.t 6]),([],fa 8 0 1),([4],ld 9 8),([4,5],bn 10 .sub (.t 9) (ki 1))] [ca 11 68 [.t 5,.t 7,.t 10],nt 12 11,mo 3 12]) (.keep (kp [(3,0)] [] 0) .ret))),[.t 3]⟩
abbrev g22_S:=Sys.on [(112,g66_r),(68,g110_r)] []
def impl_Super_inArea_c1 (a_p:Int × Str) (a_p':Int) (a_p'':Int) (a_p''':Int) (a_p'''':Int):Option (Bool):=(impl_AreaBlock ((a_p',a_p'',a_p''',a_p''''))).bind fun r1=>(impl_within a_p.1 r1 ((IntKind.i64.wrap (a_p' - 1)))).bind fun r2=>some ((!r2))
@[simp] def g22_O:Bool → TV × List Blk:=fun r=>((.bool r),[])
def g22_E (a:(Int × Str) × Int × Int × Int × Int):List TV:=[(.agg [(.int .i64 a.1.1),(.str a.1.2)]),(.vp [(.int .i64 a.2.1),(.int .i64 a.2.2.1),(.int .i64 a.2.2.2.1),(.int .i64 a.2.2.2.2)])]
theorem g22_run (a_p:Int × Str) (a_p':Int) (a_p'':Int) (a_p''':Int) (a_p'''':Int) :callFn (X g22_S) g22_tf (g22_E (a_p,a_p',a_p'',a_p''',a_p'''')) [] = (impl_Super_inArea_c1 a_p a_p' a_p'' a_p''' a_p'''').map g22_O:=by
  rw [callFn_eq]
  simp (maxSteps:=2000000) (maxDischargeDepth:=8) -implicitDefEqProofs [g22_tf,impl_Super_inArea_c1,g22_E] <;> (try simp only [map_to_bind,some_elim,g22_O])
def g22_r:Rule:=RlO g22_E (fun a=>impl_Super_inArea_c1 a.1 a.2.1 a.2.2.1 a.2.2.2.1 a.2.2.2.2) g22_O
theorem g22_ok:RuleOk Tryz.prog 111 g22_r:=ok_rlo (S:=g22_S) (tf:=g22_tf) (SysOk.on ⟨g66_ok,g110_ok,trivial⟩ trivial) (trE_ok (ks:=[[7]]) Tryz.func111 (by kernel_rfl)) fun a=>g22_run a.1 a.2.1 a.2.2.1 a.2.2.2.1 a.2.2.2.2
@[simp] theorem g22_app (y0 y1 y2 y3 y4 y5):g22_r [(.agg [(.int .i64 y0),(.str y1)]),(.vp [(.int .i64 y2),(.int .i64 y3),(.int .i64 y4),(.int .i64 y5)])] = (impl_Super_inArea_c1 ((y0,y1)) y2 y3 y4 y5).map g22_O :=
  RlO_app (enc:=g22_E) (by intro a b h; simp [g22_E,Prod.ext_iff] at h ⊢; simp [h]) ((y0,y1),y2,y3,y4,y5)
end
end Go.Proofs.TM
