/- Functions of the program, as functions of their data: written by program. -/
import Derived.Test.YtljphigfgffeeaaGreatC0
namespace Go.Proofs.TM
open Go Go.Proofs
set_option linter.unusedVariables false
set_option linter.unusedSimpArgs false
set_option maxHeartbeats 1000000
attribute [-simp] Option.map_bind strV_some
attribute [simp] guardOn_bool sA_bslice Function.comp_def
noncomputable section
/-! spec.l12Set -/
def g57_tf:TFn:=⟨(.seq (.ops [oo 6 (.mv (kb false))]) (.trim [0,1,2] (.seq (.ops [mo 8 0,nk 9 8,fa 10 11 9,ld 11 10,mo 12 1,mo 13 2,oo 14 (.build [(.int .i64 0),(.str [])] [(0,1,(.t 12)),(1,1,(.t 13))]),oo 15 (.bslice [(.int .i64 0),(.str [])] 1 [(0,(.t 14))]),ca 16 120 [.t 11,.t 15],mo 7 16]) (.trim [0,7] (.seq (.seq (.ops [mo 17 0,nk 18 17,fa 19 4 18,ln 20 4 19,mo 21 7,le 22 21,ca 23 54 [.t 20,.t 22],nt 24 23]) (.trim [0,7,24] (.cond (.t 24) (.seq (.ops [oo 6 (.mv (kb false))]) (.keep ⟨[(6,0)],[(0,2),(1,1),(2,1),(3,1),(4,1)],1⟩ .ret)) .skip))) (.trim [0,7] (.seq (.ops [mo 25 0,mo 26 7,nk 27 25,fa 28 11 27,⟨none,none,(.store 1 (.t 28) (.t 26))⟩]) (.trim [] (.seq (.ops [oo 6 (.mv (kb true))]) (.keep ⟨[(6,0)],[(0,2),(1,1),(2,1),(3,1),(6,1)],1⟩ .ret)))))))))),[.t 6]⟩
abbrev g57_S:=Sys.on [(120,g92_r),(54,g105_r)] []
def spec_l12Set_oc8 (a1:K1) (a2:Int) (a3:Str):Option (K1 × Bool):=(spec_l11Merge a1.2.2.2.2.2 ((lit [(a2,a3)]:List (Int × Str)))).bind fun r1=>(spec_l12Fits a1.2.1 (((r1.length:Nat):Int))).bind fun r2=>if ¬(r2 = true) then some (a1,false) else some ((a1.1,a1.2.1,a1.2.2.1,a1.2.2.2.1,a1.2.2.2.2.1,r1),true)
@[simp] def g57_O:(K1 × Bool) → TV × List Blk:=fun r=>((.bool r.2),[(.live 12 [[(ow 1 r.1.1.1.length),(ow 2 r.1.1.2.1.length),(.int .i64 r.1.1.2.2.1),(.bool r.1.1.2.2.2),(.int .i64 r.1.2.1.1),(.int .i64 r.1.2.1.2.1),(.int .i64 r.1.2.1.2.2.1),(.int .i64 r.1.2.1.2.2.2),(.int .i64 r.1.2.2.1),(.int .i64 r.1.2.2.2.1),(ow 3 r.1.2.2.2.2.1.length),(ow 4 r.1.2.2.2.2.2.length)]]),(ob 1 r.1.1.1),(ob 2 r.1.1.2.1),(ob 2 r.1.2.2.2.2.1),(ob 2 r.1.2.2.2.2.2)])
abbrev g57_T:=K1 × Int × Str
def g57_E (a:g57_T):List TV:=[(.ptr 0 0 0),(.int .i64 a.2.1),(.str a.2.2)]
def g57_B (a:g57_T):List Blk:=[(.live 12 [[(ow 1 a.1.1.1.length),(ow 2 a.1.1.2.1.length),(.int .i64 a.1.1.2.2.1),(.bool a.1.1.2.2.2),(.int .i64 a.1.2.1.1),(.int .i64 a.1.2.1.2.1),(.int .i64 a.1.2.1.2.2.1),(.int .i64 a.1.2.1.2.2.2),(.int .i64 a.1.2.2.1),(.int .i64 a.1.2.2.2.1),(ow 3 a.1.2.2.2.2.1.length),(ow 4 a.1.2.2.2.2.2.length)]]),(ob 1 a.1.1.1),(ob 2 a.1.1.2.1),(ob 2 a.1.2.2.2.2.1),(ob 2 a.1.2.2.2.2.2)]
theorem g57_run (a1:K1) (a2:Int) (a3:Str):callFn (X g57_S) g57_tf (g57_E (a1,a2,a3)) (g57_B (a1,a2,a3)) = (spec_l12Set_oc8 a1 a2 a3).map g57_O:=by
  rw [callFn_eq]
  simp (maxSteps:=2000000) (maxDischargeDepth:=8) -implicitDefEqProofs [g57_tf,spec_l12Set_oc8,g57_E,g57_B,bslV_lit (α:=Int × Str) (zs:=[(.int .i64 0),(.str [])])] <;> (try simp only [map_to_bind,g57_O])
def g57_r:MRule:=RmO g57_E g57_B (fun a=>spec_l12Set_oc8 a.1 a.2.1 a.2.2) g57_O
theorem g57_ok:MRuleOk Tryz.prog 87 1 g57_r:=ok_rmo (S:=g57_S) (tf:=g57_tf) (SysOk.on ⟨g92_ok,g105_ok,trivial⟩ trivial) (trE_ok (ks:=[]) Tryz.func87 (by kernel_rfl)) (by rfl) (fun _=>by simp [g57_B]) (fun _=>by simp) fun a=>g57_run a.1 a.2.1 a.2.2
@[simp] theorem g57_app (y0:List Str)(y1:List (Int × Str))(y2 y3 y4 y5 y6 y7 y8 y9)(y10:List (Int × Str))(y11:List (Int × Str))(y12 y13){n1:Nat}(h1:n1 = y0.length){n2:Nat}(h2:n2 = y1.length){n3:Nat}(h3:n3 = y10.length){n4:Nat}(h4:n4 = y11.length):g57_r [(.ptr 0 0 0),(.int .i64 y12),(.str y13)] [(.live 12 [[(ow 1 n1),(ow 2 n2),(.int .i64 y2),(.bool y3),(.int .i64 y4),(.int .i64 y5),(.int .i64 y6),(.int .i64 y7),(.int .i64 y8),(.int .i64 y9),(ow 3 n3),(ow 4 n4)]]),(ob 1 y0),(ob 2 y1),(ob 2 y10),(ob 2 y11)] = (spec_l12Set_oc8 (((y0,y1,y2,y3),(y4,y5,y6,y7),y8,y9,y10,y11)) y12 y13).map g57_O:=by
  subst h1 h2 h3 h4
  exact RmO_app (enc:=g57_E) (encB:=g57_B) (by intro a b h h2; simp [g57_E,g57_B,Prod.ext_iff] at h h2 ⊢; simp [h,h2]) (((y0,y1,y2,y3),(y4,y5,y6,y7),y8,y9,y10,y11),y12,y13)
/-! spec.l13Put -/
def g58_tf:TFn:=⟨(.seq (.ops [oo 4 (.mv (ki 0))]) (.trim [0,1] (.seq (.seq (.ops [mo 5 0,mo 6 0,nk 7 6,fa 8 4 7,ln 9 4 8,ca 10 93 [.t 9],mo 11 1,oo 12 (.callM 87 0 [0,1,2,3,4] [.t 5,.t 10,.t 11]),nt 13 12]) (.trim [13] (.cond (.t 13) (.seq (.ops [oo 4 (.mv (ki 5))]) (.keep ⟨[(4,0)],[(0,2),(5,1),(6,1),(7,1),(8,1)],1⟩ .ret)) .skip))) (.trim [] (.seq (.ops [oo 4 (.mv (ki 0))]) (.keep ⟨[(4,0)],[(0,2),(5,1),(6,1),(7,1),(8,1)],1⟩ .ret)))))),[.t 4]⟩
abbrev g58_S:=Sys.on [(93,g104_r)] [((87,0),(1,g57_r))]
def spec_l13Put_oea (a1:K1) (a2:Str):Option (K1 × Int):=(spec_l10Area a1.2.1).bind fun r1=>(spec_l12Set_oc8 a1 r1 a2).bind fun r2=>if ¬(r2.2 = true) then some (r2.1,5) else some (r2.1,0)
@[simp] def g58_O:(K1 × Int) → TV × List Blk:=fun r=>((.int .i64 r.2),[(.live 12 [[(ow 1 r.1.1.1.length),(ow 2 r.1.1.2.1.length),(.int .i64 r.1.1.2.2.1),(.bool r.1.1.2.2.2),(.int .i64 r.1.2.1.1),(.int .i64 r.1.2.1.2.1),(.int .i64 r.1.2.1.2.2.1),(.int .i64 r.1.2.1.2.2.2),(.int .i64 r.1.2.2.1),(.int .i64 r.1.2.2.2.1),(ow 3 r.1.2.2.2.2.1.length),(ow 4 r.1.2.2.2.2.2.length)]]),(ob 1 r.1.1.1),(ob 2 r.1.1.2.1),(ob 2 r.1.2.2.2.2.1),(ob 2 r.1.2.2.2.2.2)])
abbrev g58_T:=K1 × Str
def g58_E (a:g58_T):List TV:=[(.ptr 0 0 0),(.str a.2)]
def g58_B (a:g58_T):List Blk:=[(.live 12 [[(ow 1 a.1.1.1.length),(ow 2 a.1.1.2.1.length),(.int .i64 a.1.1.2.2.1),(.bool a.1.1.2.2.2),(.int .i64 a.1.2.1.1),(.int .i64 a.1.2.1.2.1),(.int .i64 a.1.2.1.2.2.1),(.int .i64 a.1.2.1.2.2.2),(.int .i64 a.1.2.2.1),(.int .i64 a.1.2.2.2.1),(ow 3 a.1.2.2.2.2.1.length),(ow 4 a.1.2.2.2.2.2.length)]]),(ob 1 a.1.1.1),(ob 2 a.1.1.2.1),(ob 2 a.1.2.2.2.2.1),(ob 2 a.1.2.2.2.2.2)]
theorem g58_run (a1:K1) (a2:Str):callFn (X g58_S) g58_tf (g58_E (a1,a2)) (g58_B (a1,a2)) = (spec_l13Put_oea a1 a2).map g58_O:=by
  rw [callFn_eq]
  simp (maxSteps:=2000000) (maxDischargeDepth:=8) -implicitDefEqProofs [g58_tf,spec_l13Put_oea,g58_E,g58_B] <;> (try simp only [map_to_bind,g58_O])
def g58_r:MRule:=RmO g58_E g58_B (fun a=>spec_l13Put_oea a.1 a.2) g58_O
theorem g58_ok:MRuleOk Tryz.prog 117 1 g58_r:=ok_rmo (S:=g58_S) (tf:=g58_tf) (SysOk.on ⟨g104_ok,trivial⟩ ⟨g57_ok,trivial⟩) (trE_ok (ks:=[]) Tryz.func117 (by kernel_rfl)) (by rfl) (fun _=>by simp [g58_B]) (fun _=>by simp) fun a=>g58_run a.1 a.2
@[simp] theorem g58_app (y0:List Str)(y1:List (Int × Str))(y2 y3 y4 y5 y6 y7 y8 y9)(y10:List (Int × Str))(y11:List (Int × Str))(y12){n1:Nat}(h1:n1 = y0.length){n2:Nat}(h2:n2 = y1.length){n3:Nat}(h3:n3 = y10.length){n4:Nat}(h4:n4 = y11.length):g58_r [(.ptr 0 0 0),(.str y12)] [(.live 12 [[(ow 1 n1),(ow 2 n2),(.int .i64 y2),(.bool y3),(.int .i64 y4),(.int .i64 y5),(.int .i64 y6),(.int .i64 y7),(.int .i64 y8),(.int .i64 y9),(ow 3 n3),(ow 4 n4)]]),(ob 1 y0),(ob 2 y1),(ob 2 y10),(ob 2 y11)] = (spec_l13Put_oea (((y0,y1,y2,y3),(y4,y5,y6,y7),y8,y9,y10,y11)) y12).map g58_O:=by
  subst h1 h2 h3 h4
  exact RmO_app (enc:=g58_E) (encB:=g58_B) (by intro a b h h2; simp [g58_E,g58_B,Prod.ext_iff] at h h2 ⊢; simp [h,h2]) (((y0,y1,y2,y3),(y4,y5,y6,y7),y8,y9,y10,y11),y12)
/-! spec.l13Allocate -/
def g23_tf:TFn:=⟨(.seq (.ops [oo 4 (.mv (ki 0)),oo 5 (.mv (ki 0))]) (.trim [0,1] (.seq (.ops [mo 7 0,ca 8 116 [.t 7],mo 9 1,ca 10 115 [.t 8,.t 9],mo 6 10]) (.trim [0,1,6] (.seq (.seq (.ops [mo 11 6,bn 12 .eql (.t 11) (ki 0)]) (.trim [0,1,6,12] (.cond (.t 12) (.seq (.ops [oo 4 (.mv (ki 0)),oo 5 (.mv (ki 5))]) (.keep ⟨[(4,0),(5,0)],[(0,2),(1,1),(2,1),(3,1),(4,1)],1⟩ .ret)) .skip))) (.trim [0,1,6] (.seq (.ops [mo 13 6,mo 14 0,mo 15 0,ca 16 119 [.t 15],mo 17 6,mo 18 1,ca 19 118 [.t 16,.t 17,.t 18,kb true],oo 20 (.callM 117 0 [0,1,2,3,4] [.t 14,.t 19]),mo 4 13,mo 5 20]) (.keep ⟨[(4,0),(5,0)],[(0,2),(6,1),(7,1),(8,1),(9,1)],1⟩ .ret)))))))),[.t 4,.t 5]⟩
abbrev g23_S:=Sys.on [(116,g111_r),(115,g112_r),(119,g110_r),(118,g113_r)] [((117,0),(1,g58_r))]
def spec_l13Allocate_of2 (a1:K1) (a2:Int):Option (K1 × Int × Int):=(spec_l13Runs a1).bind fun r1=>(spec_l13Best r1 a2).bind fun r2=>if r2 = 0 then some (a1,0,5) else (spec_l13Area a1).bind fun r3=>(spec_l13Mark r3 r2 a2 true).bind fun r4=>(spec_l13Put_oea a1 r4).bind fun r5=>some (r5.1,r2,r5.2)
@[simp] def g23_O:(K1 × Int × Int) → TV × List Blk:=fun r=>((.tup [(.int .i64 r.2.1),(.int .i64 r.2.2)]),[(.live 12 [[(ow 1 r.1.1.1.length),(ow 2 r.1.1.2.1.length),(.int .i64 r.1.1.2.2.1),(.bool r.1.1.2.2.2),(.int .i64 r.1.2.1.1),(.int .i64 r.1.2.1.2.1),(.int .i64 r.1.2.1.2.2.1),(.int .i64 r.1.2.1.2.2.2),(.int .i64 r.1.2.2.1),(.int .i64 r.1.2.2.2.1),(ow 3 r.1.2.2.2.2.1.length),(ow 4 r.1.2.2.2.2.2.length)]]),(ob 1 r.1.1.1),(ob 2 r.1.1.2.1),(ob 2 r.1.2.2.2.2.1),(ob 2 r.1.2.2.2.2.2)])
abbrev g23_T:=K1 × Int
def g23_E (a:g23_T):List TV:=[(.ptr 0 0 0),(.int .i64 a.2)]
def g23_B (a:g23_T):List Blk:=[(.live 12 [[(ow 1 a.1.1.1.length),(ow 2 a.1.1.2.1.length),(.int .i64 a.1.1.2.2.1),(.bool a.1.1.2.2.2),(.int .i64 a.1.2.1.1),(.int .i64 a.1.2.1.2.1),(.int .i64 a.1.2.1.2.2.1),(.int .i64 a.1.2.1.2.2.2),(.int .i64 a.1.2.2.1),(.int .i64 a.1.2.2.2.1),(ow 3 a.1.2.2.2.2.1.length),(ow 4 a.1.2.2.2.2.2.length)]]),(ob 1 a.1.1.1),(ob 2 a.1.1.2.1),(ob 2 a.1.2.2.2.2.1),(ob 2 a.1.2.2.2.2.2)]
theorem g23_run (a1:K1) (a2:Int):callFn (X g23_S) g23_tf (g23_E (a1,a2)) (g23_B (a1,a2)) = (spec_l13Allocate_of2 a1 a2).map g23_O:=by
  rw [callFn_eq]
  simp (maxSteps:=2000000) (maxDischargeDepth:=8) -implicitDefEqProofs [g23_tf,spec_l13Allocate_of2,g23_E,g23_B] <;> (try simp only [map_to_bind,g23_O])
def g23_r:MRule:=RmO g23_E g23_B (fun a=>spec_l13Allocate_of2 a.1 a.2) g23_O
theorem g23_ok:MRuleOk Tryz.prog 86 1 g23_r:=ok_rmo (S:=g23_S) (tf:=g23_tf) (SysOk.on ⟨g111_ok,g112_ok,g110_ok,g113_ok,trivial⟩ ⟨g58_ok,trivial⟩) (trE_ok (ks:=[]) Tryz.func86 (by kernel_rfl)) (by rfl) (fun _=>by simp [g23_B]) (fun _=>by simp) fun a=>g23_run a.1 a.2
@[simp] theorem g23_app (y0:List Str)(y1:List (Int × Str))(y2 y3 y4 y5 y6 y7 y8 y9)(y10:List (Int × Str))(y11:List (Int × Str))(y12){n1:Nat}(h1:n1 = y0.length){n2:Nat}(h2:n2 = y1.length){n3:Nat}(h3:n3 = y10.length){n4:Nat}(h4:n4 = y11.length):g23_r [(.ptr 0 0 0),(.int .i64 y12)] [(.live 12 [[(ow 1 n1),(ow 2 n2),(.int .i64 y2),(.bool y3),(.int .i64 y4),(.int .i64 y5),(.int .i64 y6),(.int .i64 y7),(.int .i64 y8),(.int .i64 y9),(ow 3 n3),(ow 4 n4)]]),(ob 1 y0),(ob 2 y1),(ob 2 y10),(ob 2 y11)] = (spec_l13Allocate_of2 (((y0,y1,y2,y3),(y4,y5,y6,y7),y8,y9,y10,y11)) y12).map g23_O:=by
  subst h1 h2 h3 h4
  exact RmO_app (enc:=g23_E) (encB:=g23_B) (by intro a b h h2; simp [g23_E,g23_B,Prod.ext_iff] at h h2 ⊢; simp [h,h2]) (((y0,y1,y2,y3),(y4,y5,y6,y7),y8,y9,y10,y11),y12)
/-! spec.l14Grow -/
def g49l1_cb:TC:=(.seq (.seq (.ops [mo 10 1,le 11 10,mo 12 2,bn 13 .lss (.t 11) (.t 12)]) (.trim [0,1,2,13] (.cond (.t 13) .skip (.keep ⟨[(1,1)],[(0,2),(1,1),(2,1),(3,1),(4,1),(5,1)],1⟩ (.exit 0))))) (.trim [0,1,2] (.block 1 (.seq (.ops [mo 15 0,oo 16 (.callM 86 0 [0,1,2,3,4] [.t 15,ki 1]),mo 14 16,oo 17 (.ext (.t 14) 0),oo 18 (.ext (.t 14) 1),mo 8 17,mo 9 18]) (.trim [0,1,2,8,9] (.seq (.seq (.ops [mo 19 9,bn 20 .neq (.t 19) (ki 0)]) (.trim [0,1,2,8,9,20] (.cond (.t 20) (.seq (.ops [mo 21 9,oo 6 (.mv (.c .nils)),mo 7 21]) (.keep ⟨[(6,1),(7,0)],[(0,2),(6,1),(7,1),(8,1),(9,1),(1000,1)],1⟩ .ret)) .skip))) (.trim [0,1,2,8] (.after (.ops [mo 22 1,mo 23 8,oo 24 (.bslice [(.int .i64 0)] 1 [(0,(.t 23))]),oo 25 (.append 2 1 8 (.t 22) (.t 24)),mo 1 25]) ⟨[(0,0),(1,1),(2,0)],[(0,2),(6,1),(7,1),(8,1),(9,1),(11,1)],1⟩))))))))
def g49l1_c:TC:=.loop [0,1,2] g49l1_cb
def g49_tf:TFn:=⟨(.seq (.ops [oo 6 (.mv (.c .nils)),oo 7 (.mv (ki 0))]) (.trim [0,1,2] (.seq (.block 0 (.keep ⟨[(0,0),(1,1),(2,0)],[(0,2),(1,1),(2,1),(3,1),(4,1),(1000,1)],1⟩ g49l1_c)) (.trim [1] (.seq (.ops [mo 26 1,mo 6 26,oo 7 (.mv (ki 0))]) (.keep ⟨[(6,1),(7,0)],[(0,2),(1,1),(2,1),(3,1),(4,1),(5,1)],1⟩ .ret)))))),[.t 6,.t 7]⟩
abbrev g49_S:=Sys.on [] [((86,0),(1,g23_r))]
@[reducible,simp] def g49l1_F:((K1 × List Int) ⊕ (K1 × List Int × Int)) → Out:=(Sum.elim (fun t=>(.ext 0,[(1,(ow 5 t.2.length))],[(.live 12 [[(ow 1 t.1.1.1.length),(ow 2 t.1.1.2.1.length),(.int .i64 t.1.1.2.2.1),(.bool t.1.1.2.2.2),(.int .i64 t.1.2.1.1),(.int .i64 t.1.2.1.2.1),(.int .i64 t.1.2.1.2.2.1),(.int .i64 t.1.2.1.2.2.2),(.int .i64 t.1.2.2.1),(.int .i64 t.1.2.2.2.1),(ow 3 t.1.2.2.2.2.1.length),(ow 4 t.1.2.2.2.2.2.length)]]),(ob 1 t.1.1.1),(ob 2 t.1.1.2.1),(ob 2 t.1.2.2.2.2.1),(ob 2 t.1.2.2.2.2.2),(ob 1 t.2)])) (fun t=>(.ret,[(6,(ow 5 t.2.1.length)),(7,(.int .i64 t.2.2))],[(.live 12 [[(ow 1 t.1.1.1.length),(ow 2 t.1.1.2.1.length),(.int .i64 t.1.1.2.2.1),(.bool t.1.1.2.2.2),(.int .i64 t.1.2.1.1),(.int .i64 t.1.2.1.2.1),(.int .i64 t.1.2.1.2.2.1),(.int .i64 t.1.2.1.2.2.2),(.int .i64 t.1.2.2.1),(.int .i64 t.1.2.2.2.1),(ow 3 t.1.2.2.2.2.1.length),(ow 4 t.1.2.2.2.2.2.length)]]),(ob 1 t.1.1.1),(ob 2 t.1.1.2.1),(ob 2 t.1.2.2.2.2.1),(ob 2 t.1.2.2.2.2.2),(ob 1 t.2.1)])))
def spec_l14Grow_ob7_l1_b (v3:Int) (v1:K1) (v2:List Int):Option ((K1 × List Int) ⊕ ((K1 × List Int) ⊕ (K1 × List Int × Int))):=if ((v2.length:Nat):Int) < v3 then (spec_l13Allocate_of2 v1 1).bind fun r4=>if ¬(r4.2.2 = 0) then some (.inr (.inr (r4.1,([]:List Int),r4.2.2))) else (appL 8 v2 ((lit [r4.2.1]:List Int))).bind fun l5=>some (.inl (r4.1,l5)) else some (.inr (.inl (v1,v2)))
theorem g49l1_b_eq  (v3:Int) (v1:K1) (v2:List Int):X g49_S g49l1_cb (keepEnv [0,1,2] [(0,(.ptr 0 0 0)),(1,(ow 5 v2.length)),(2,(.int .i64 v3))]) [(.live 12 [[(ow 1 v1.1.1.length),(ow 2 v1.1.2.1.length),(.int .i64 v1.1.2.2.1),(.bool v1.1.2.2.2),(.int .i64 v1.2.1.1),(.int .i64 v1.2.1.2.1),(.int .i64 v1.2.1.2.2.1),(.int .i64 v1.2.1.2.2.2),(.int .i64 v1.2.2.1),(.int .i64 v1.2.2.2.1),(ow 3 v1.2.2.2.2.1.length),(ow 4 v1.2.2.2.2.2.length)]]),(ob 1 v1.1.1),(ob 2 v1.1.2.1),(ob 2 v1.2.2.2.2.1),(ob 2 v1.2.2.2.2.2),(ob 1 v2)] = (spec_l14Grow_ob7_l1_b v3 v1 v2).map (Sum.elim (fun s=>(TX.nrm,[(0,(.ptr 0 0 0)),(1,(ow 5 s.2.length)),(2,(.int .i64 v3))],[(.live 12 [[(ow 1 s.1.1.1.length),(ow 2 s.1.1.2.1.length),(.int .i64 s.1.1.2.2.1),(.bool s.1.1.2.2.2),(.int .i64 s.1.2.1.1),(.int .i64 s.1.2.1.2.1),(.int .i64 s.1.2.1.2.2.1),(.int .i64 s.1.2.1.2.2.2),(.int .i64 s.1.2.2.1),(.int .i64 s.1.2.2.2.1),(ow 3 s.1.2.2.2.2.1.length),(ow 4 s.1.2.2.2.2.2.length)]]),(ob 1 s.1.1.1),(ob 2 s.1.1.2.1),(ob 2 s.1.2.2.2.2.1),(ob 2 s.1.2.2.2.2.2),(ob 1 s.2)])) g49l1_F):=by
  simp (maxSteps:=2000000) (maxDischargeDepth:=8) -implicitDefEqProofs [g49l1_cb,spec_l14Grow_ob7_l1_b,bslV_lit (α:=Int) (zs:=[(.int .i64 0)])] <;> (try simp only [map_to_bind,g49l1_F])
def spec_l14Grow_ob7_l1 (v3:Int) (s:K1 × List Int):Option ((K1 × List Int) ⊕ (K1 × List Int × Int)):=loopO (fun s=>spec_l14Grow_ob7_l1_b v3 s.1 s.2) s
@[simp] theorem g49l1_eq (y0 y1 y2 y3 y4 y5 y6 y7 y8 y9 y10 y11)(y12:List Int)(y13){n1:Nat}(h1:n1 = y12.length):X g49_S g49l1_c [(0,(.ptr 0 0 0)),(1,(ow 5 n1)),(2,(.int .i64 y13))] [(.live 12 [[(ow 1 y0.length),(ow 2 y1.length),(.int .i64 y2),(.bool y3),(.int .i64 y4),(.int .i64 y5),(.int .i64 y6),(.int .i64 y7),(.int .i64 y8),(.int .i64 y9),(ow 3 y10.length),(ow 4 y11.length)]]),(ob 1 y0),(ob 2 y1),(ob 2 y10),(ob 2 y11),(ob 1 y12)] = (spec_l14Grow_ob7_l1 y13 (((y0,y1,y2,y3),(y4,y5,y6,y7),y8,y9,y10,y11),y12)).map g49l1_F:=by
  subst h1
  exact loop_X _ _ _ _ (by intro r; first | (simp; done) | (rcases r with r | r <;> simp; done) | (rcases r with r | r | r <;> simp; done) | (rcases r with r | r | r | r <;> simp)) (fun s=>g49l1_b_eq  y13 s.1 s.2) (((y0,y1,y2,y3),(y4,y5,y6,y7),y8,y9,y10,y11),y12)
@[simp] theorem g49l1_eq_1 (y0 y1 y2 y3 y4 y5 y6 y7 y8 y9 y10 y11 y12):X g49_S g49l1_c [(0,(.ptr 0 0 0)),(1,.es),(2,(.int .i64 y12))] [(.live 12 [[(ow 1 y0.length),(ow 2 y1.length),(.int .i64 y2),(.bool y3),(.int .i64 y4),(.int .i64 y5),(.int .i64 y6),(.int .i64 y7),(.int .i64 y8),(.int .i64 y9),(ow 3 y10.length),(ow 4 y11.length)]]),(ob 1 y0),(ob 2 y1),(ob 2 y10),(ob 2 y11),.dead] = (spec_l14Grow_ob7_l1 y12 (((y0,y1,y2,y3),(y4,y5,y6,y7),y8,y9,y10,y11),([]:List Int))).map g49l1_F :=
  g49l1_eq  y0 y1 y2 y3 y4 y5 y6 y7 y8 y9 y10 y11 ([]:List Int) y12 rfl
def spec_l14Grow_ob7 (a1:K1) (a2:Int):Option (K1 × List Int × Int):=(spec_l14Grow_ob7_l1 a2 ((a1,([]:List Int)))).bind fun r6=>Sum.elim (fun u7=>some (u7.1,u7.2,0)) (fun u8=>some (u8.1,u8.2.1,u8.2.2)) r6
@[simp] def g49_O:(K1 × List Int × Int) → TV × List Blk:=fun r=>((.tup [(ow 5 r.2.1.length),(.int .i64 r.2.2)]),[(.live 12 [[(ow 1 r.1.1.1.length),(ow 2 r.1.1.2.1.length),(.int .i64 r.1.1.2.2.1),(.bool r.1.1.2.2.2),(.int .i64 r.1.2.1.1),(.int .i64 r.1.2.1.2.1),(.int .i64 r.1.2.1.2.2.1),(.int .i64 r.1.2.1.2.2.2),(.int .i64 r.1.2.2.1),(.int .i64 r.1.2.2.2.1),(ow 3 r.1.2.2.2.2.1.length),(ow 4 r.1.2.2.2.2.2.length)]]),(ob 1 r.1.1.1),(ob 2 r.1.1.2.1),(ob 2 r.1.2.2.2.2.1),(ob 2 r.1.2.2.2.2.2),(ob 1 r.2.1)])
abbrev g49_T:=K1 × Int
def g49_E (a:g49_T):List TV:=[(.ptr 0 0 0),.es,(.int .i64 a.2)]
def g49_B (a:g49_T):List Blk:=[(.live 12 [[(ow 1 a.1.1.1.length),(ow 2 a.1.1.2.1.length),(.int .i64 a.1.1.2.2.1),(.bool a.1.1.2.2.2),(.int .i64 a.1.2.1.1),(.int .i64 a.1.2.1.2.1),(.int .i64 a.1.2.1.2.2.1),(.int .i64 a.1.2.1.2.2.2),(.int .i64 a.1.2.2.1),(.int .i64 a.1.2.2.2.1),(ow 3 a.1.2.2.2.2.1.length),(ow 4 a.1.2.2.2.2.2.length)]]),(ob 1 a.1.1.1),(ob 2 a.1.1.2.1),(ob 2 a.1.2.2.2.2.1),(ob 2 a.1.2.2.2.2.2)]
theorem g49_run (a1:K1) (a2:Int):callFn (X g49_S) g49_tf (g49_E (a1,a2)) (g49_B (a1,a2)) = (spec_l14Grow_ob7 a1 a2).map g49_O:=by
  rw [callFn_eq]
  simp (maxSteps:=2000000) (maxDischargeDepth:=8) -implicitDefEqProofs [g49_tf,spec_l14Grow_ob7,g49_E,g49_B,bslV_lit (α:=Int) (zs:=[(.int .i64 0)])] <;> (try simp only [map_to_bind,g49_O])
def g49_r:MRule:=RmO g49_E g49_B (fun a=>spec_l14Grow_ob7 a.1 a.2) g49_O
theorem g49_ok:MRuleOk Tryz.prog 57 1 g49_r:=ok_rmo (S:=g49_S) (tf:=g49_tf) (SysOk.on trivial ⟨g23_ok,trivial⟩) (trE_ok (ks:=[[0,1,2]]) Tryz.func57 (by kernel_rfl)) (by rfl) (fun _=>by simp [g49_B]) (fun _=>by simp) fun a=>g49_run a.1 a.2
@[simp] theorem g49_app (y0:List Str)(y1:List (Int × Str))(y2 y3 y4 y5 y6 y7 y8 y9)(y10:List (Int × Str))(y11:List (Int × Str))(y12){n1:Nat}(h1:n1 = y0.length){n2:Nat}(h2:n2 = y1.length){n3:Nat}(h3:n3 = y10.length){n4:Nat}(h4:n4 = y11.length):g49_r [(.ptr 0 0 0),.es,(.int .i64 y12)] [(.live 12 [[(ow 1 n1),(ow 2 n2),(.int .i64 y2),(.bool y3),(.int .i64 y4),(.int .i64 y5),(.int .i64 y6),(.int .i64 y7),(.int .i64 y8),(.int .i64 y9),(ow 3 n3),(ow 4 n4)]]),(ob 1 y0),(ob 2 y1),(ob 2 y10),(ob 2 y11)] = (spec_l14Grow_ob7 (((y0,y1,y2,y3),(y4,y5,y6,y7),y8,y9,y10,y11)) y12).map g49_O:=by
  subst h1 h2 h3 h4
  exact RmO_app (enc:=g49_E) (encB:=g49_B) (by intro a b h h2; simp [g49_E,g49_B,Prod.ext_iff] at h h2 ⊢; simp [h,h2]) (((y0,y1,y2,y3),(y4,y5,y6,y7),y8,y9,y10,y11),y12)
/-! spec.l00Min -/
def g130_tf:TFn:=⟨(.seq (.ops [oo 4 (.mv (ki 0))]) (.trim [0,1] (.seq (.seq (.ops [mo 5 0,mo 6 1,bn 7 .lss (.t 5) (.t 6)]) (.trim [0,1,7] (.cond (.t 7) (.seq (.ops [mo 8 0,mo 4 8]) (.keep ⟨[(4,0)],[],0⟩ .ret)) .skip))) (.trim [1] (.seq (.ops [mo 9 1,mo 4 9]) (.keep ⟨[(4,0)],[],0⟩ .ret)))))),[.t 4]⟩
abbrev g130_S:=Sys.on [] []
def spec_l00Min (a_a:Int) (a_b:Int):Option (Int):=if a_a < a_b then some a_a else some a_b
@[simp] def g130_O:Int → TV × List Blk:=fun r=>((.int .i64 r),[])
def g130_E (a:Int × Int):List TV:=[(.int .i64 a.1),(.int .i64 a.2)]
theorem g130_run (a_a:Int) (a_b:Int) :callFn (X g130_S) g130_tf (g130_E (a_a,a_b)) [] = (spec_l00Min a_a a_b).map g130_O:=by
  rw [callFn_eq]
  simp (maxSteps:=2000000) (maxDischargeDepth:=8) -implicitDefEqProofs [g130_tf,spec_l00Min,g130_E] <;> (try simp only [map_to_bind,g130_O])
def g130_r:Rule:=RlO g130_E (fun a=>spec_l00Min a.1 a.2) g130_O
theorem g130_ok:RuleOk Tryz.prog 96 g130_r:=ok_rlo (S:=g130_S) (tf:=g130_tf) (SysOk.on trivial trivial) (trE_ok (ks:=[]) Tryz.func96 (by kernel_rfl)) fun a=>g130_run a.1 a.2
@[simp] theorem g130_app (y0 y1):g130_r [(.int .i64 y0),(.int .i64 y1)] = (spec_l00Min y0 y1).map g130_O :=
  RlO_app (enc:=g130_E) (by intro a b h; simp [g130_E,Prod.ext_iff] at h ⊢; simp [h]) (y0,y1)
/-! spec.l01Pad -/
def g131_tf:TFn:=⟨(.seq (.ops [oo 4 (.mv (.c (.str [])))]) (.trim [0,1] (.seq (.seq (.ops [mo 5 0,oo 6 (.len true (.t 5)),mo 7 1,bn 8 .geq (.t 6) (.t 7)]) (.trim [0,1,8] (.cond (.t 8) (.seq (.ops [mo 9 0,mo 4 9]) (.keep ⟨[(4,0)],[],0⟩ .ret)) .skip))) (.trim [0,1] (.seq (.ops [mo 10 0,mo 11 1,mo 12 0,oo 13 (.len true (.t 12)),bn 14 .sub (.t 11) (.t 13),oo 15 (.mkslice 1 [(.int .u8 0)] (.t 14) (.t 14)),oo 16 (.conv .toStr (.t 15)),oo 17 (.bin .str .add (.t 10) (.t 16)),mo 4 17]) (.keep ⟨[(4,0)],[],0⟩ .ret)))))),[.t 4]⟩
abbrev g131_S:=Sys.on [] []
def spec_l01Pad (a_s:Str) (a_n:Int):Option (Str):=if (a_s.length:Int) ≥ a_n then some a_s else (mkL 1 ((IntKind.i64.wrap (a_n - ((a_s.length:Int))))) ((IntKind.i64.wrap (a_n - ((a_s.length:Int))))) ((⟨0⟩:Bt):Bt)).bind fun l1=>if a_s.length + ((l1.map Bt.v)).length ≤ 9223372036854775807 then some ((a_s ++ (l1.map Bt.v))) else none
@[simp] def g131_O:Str → TV × List Blk:=fun r=>((.str r),[])
def g131_E (a:Str × Int):List TV:=[(.str a.1),(.int .i64 a.2)]
theorem g131_run (a_s:Str) (a_n:Int) :callFn (X g131_S) g131_tf (g131_E (a_s,a_n)) [] = (spec_l01Pad a_s a_n).map g131_O:=by
  rw [callFn_eq]
  simp (maxSteps:=2000000) (maxDischargeDepth:=8) -implicitDefEqProofs [g131_tf,spec_l01Pad,g131_E,mksliceV_typed (z:=((⟨0⟩:Bt):Bt)) (zs:=[(.int .u8 0)]) rfl (by decide)] <;> (try simp only [map_to_bind,g131_O])
def g131_r:Rule:=RlO g131_E (fun a=>spec_l01Pad a.1 a.2) g131_O
theorem g131_ok:RuleOk Tryz.prog 98 g131_r:=ok_rlo (S:=g131_S) (tf:=g131_tf) (SysOk.on trivial trivial) (trE_ok (ks:=[]) Tryz.func98 (by kernel_rfl)) fun a=>g131_run a.1 a.2
@[simp] theorem g131_app (y0 y1):g131_r [(.str y0),(.int .i64 y1)] = (spec_l01Pad y0 y1).map g131_O :=
  RlO_app (enc:=g131_E) (by intro a b h; simp [g131_E,Prod.ext_iff] at h ⊢; simp [h]) (y0,y1)
/-! spec.l14Store -/
def g38p2_c:TC:=(.seq (.ops [mo 30 7,oo 31 (.len true (.t 30)),ca 32 96 [ki 60,.t 31],mo 10 32]) (.trim [0,1,7,8,9,10] (.seq (.draw [([],mo 33 9),([0],ca 34 97 [.t 33,ki 2,kb false]),([],mo 35 10),([0,1,2],ca 36 97 [.t 35,ki 2,kb false]),([0,1,2,3],oo 37 (.bin .str .add (.t 34) (.t 36))),([],mo 38 7),([],mo 39 10),([5,6],oo 40 (.sliceS (.t 38) none (some (.t 39))))] [oo 41 (.bin .str .add (.t 37) (.t 40)),mo 11 41]) (.trim [0,1,7,8,10,11] (.seq (.ops [mo 42 7,mo 43 10,oo 44 (.sliceS (.t 42) (some (.t 43)) none),mo 7 44]) (.trim [0,1,7,8,11] (.seq (.draw [([],mo 45 0),([],mo 46 1),([],mo 47 8),([1,2],ia 48 1 46 47),([1,2,3],ld 49 48),([],mo 50 11),([5],ca 51 98 [.t 50,ki 64])] [oo 52 (.callM 87 0 [0,2,3,4,5] [.t 45,.t 49,.t 51]),nt 53 52]) (.trim [0,1,7,8,53] (.cond (.t 53) (.seq (.ops [oo 6 (.mv (ki 5))]) (.keep ⟨[(6,0)],[(0,2),(1,1),(6,1),(7,1),(8,1),(9,1)],2⟩ .ret)) (.keep ⟨[(0,0),(1,0),(7,0),(8,0)],[(0,2),(1,1),(6,1),(7,1),(8,1),(9,1)],2⟩ .skip))))))))))
def g38l1_cb:TC:=(.seq (.seq (.ops [mo 14 8,mo 15 1,le 16 15,bn 17 .lss (.t 14) (.t 16)]) (.trim [0,1,7,8,17] (.cond (.t 17) .skip (.keep ⟨[],[(0,2),(1,1),(2,1),(3,1),(4,1),(5,1)],2⟩ (.exit 0))))) (.trim [0,1,7,8] (.seq (.block 1 (.seq (.ops [oo 9 (.mv (ki 0))]) (.trim [0,1,7,8,9] (.seq (.seq (.ops [mo 20 8,bn 21 .add (.t 20) (ki 1),mo 22 1,le 23 22,bn 24 .lss (.t 21) (.t 23)]) (.trim [0,1,7,8,9,24] (.cond (.t 24) (.after (.ops [mo 25 1,mo 26 8,bn 27 .add (.t 26) (ki 1),ia 28 1 25 27,ld 29 28,mo 9 29]) ⟨[(0,0),(1,0),(7,0),(8,0),(9,0)],[(0,2),(1,1),(2,1),(3,1),(4,1),(5,1)],2⟩) (.keep ⟨[(0,0),(1,0),(7,0),(8,0),(9,0)],[(0,2),(1,1),(2,1),(3,1),(4,1),(5,1)],2⟩ .skip)))) (.trim [0,1,7,8,9] g38p2_c))))) (.trim [0,1,7,8] (.after (.ops [mo 18 8,bn 19 .add (.t 18) (ki 1),mo 8 19]) ⟨[(0,0),(1,0),(7,0),(8,0)],[(0,2),(1,1),(2,1),(3,1),(4,1),(5,1)],2⟩)))))
def g38l1_c:TC:=.loop [0,1,7,8] g38l1_cb
def g38_tf:TFn:=⟨(.seq (.ops [bx 5 2,oo 6 (.mv (ki 0))]) (.trim [0,1,5] (.seq (.ops [ln 12 3 5,ca 13 95 [.t 12],mo 7 13]) (.trim [0,1,7] (.seq (.seq (.ops [oo 8 (.mv (ki 0))]) (.trim [0,1,7,8] (.block 0 (.keep ⟨[(0,0),(1,0),(7,0),(8,0)],[(0,2),(1,1),(2,1),(3,1),(4,1),(5,1)],2⟩ g38l1_c)))) (.trim [] (.seq (.ops [oo 6 (.mv (ki 0))]) (.keep ⟨[(6,0)],[(0,2),(1,1),(2,1),(3,1),(4,1),(5,1)],2⟩ .ret)))))))),[.t 6]⟩
abbrev g38_S:=Sys.on [(95,g73_r),(96,g130_r),(97,g127_r),(98,g131_r)] [((87,0),(1,g57_r))]
@[reducible,simp] def g38p2_F:((K1 × List Int × Int) ⊕ (K1 × List Int × Str × Int)) → Out:=(Sum.elim (fun t=>(.ret,[(6,(.int .i64 t.2.2))],[(.live 12 [[(ow 2 t.1.1.1.length),(ow 3 t.1.1.2.1.length),(.int .i64 t.1.1.2.2.1),(.bool t.1.1.2.2.2),(.int .i64 t.1.2.1.1),(.int .i64 t.1.2.1.2.1),(.int .i64 t.1.2.1.2.2.1),(.int .i64 t.1.2.1.2.2.2),(.int .i64 t.1.2.2.1),(.int .i64 t.1.2.2.2.1),(ow 4 t.1.2.2.2.2.1.length),(ow 5 t.1.2.2.2.2.2.length)]]),(ob 1 t.2.1),(ob 1 t.1.1.1),(ob 2 t.1.1.2.1),(ob 2 t.1.2.2.2.2.1),(ob 2 t.1.2.2.2.2.2)])) (fun t=>(.nrm,[(0,(.ptr 0 0 0)),(1,(ow 1 t.2.1.length)),(7,(.str t.2.2.1)),(8,(.int .i64 t.2.2.2))],[(.live 12 [[(ow 2 t.1.1.1.length),(ow 3 t.1.1.2.1.length),(.int .i64 t.1.1.2.2.1),(.bool t.1.1.2.2.2),(.int .i64 t.1.2.1.1),(.int .i64 t.1.2.1.2.1),(.int .i64 t.1.2.1.2.2.1),(.int .i64 t.1.2.1.2.2.2),(.int .i64 t.1.2.2.1),(.int .i64 t.1.2.2.2.1),(ow 4 t.1.2.2.2.2.1.length),(ow 5 t.1.2.2.2.2.2.length)]]),(ob 1 t.2.1),(ob 1 t.1.1.1),(ob 2 t.1.1.2.1),(ob 2 t.1.2.2.2.2.1),(ob 2 t.1.2.2.2.2.2)])))
def spec_l14Store_o57_p2 (v7:K1) (v8:List Int) (v9:Str) (v10:Int) (v11:Int):Option ((K1 × List Int × Int) ⊕ (K1 × List Int × Str × Int)):=(spec_l00Min 60 ((v9.length:Int))).bind fun r12=>(spec_l02Put v11 2 false).bind fun r13=>(spec_l02Put r12 2 false).bind fun r14=>if r13.length + r14.length ≤ 9223372036854775807 then (subL v9 none (some r12)).bind fun s15=>if ((r13 ++ r14)).length + s15.length ≤ 9223372036854775807 then (subL v9 (some r12) none).bind fun s16=>if 0 ≤ v10 ∧ v10 < ((v8.length:Nat):Int) then (v8[(v10).toNat]?).bind fun x17=>(spec_l01Pad (((r13 ++ r14) ++ s15)) 64).bind fun r18=>(spec_l12Set_oc8 v7 x17 r18).bind fun r19=>if ¬(r19.2 = true) then some ((.inl (r19.1,v8,5))) else some ((.inr (r19.1,v8,s16,v10))) else none else none else none
@[simp] theorem g38p2_eq (y0 y1 y2 y3 y4 y5 y6 y7 y8 y9 y10 y11)(y12:List Int)(y13 y14 y15){n1:Nat}(h1:n1 = y12.length):X g38_S g38p2_c [(0,(.ptr 0 0 0)),(1,(ow 1 n1)),(7,(.str y13)),(8,(.int .i64 y14)),(9,(.int .i64 y15))] [(.live 12 [[(ow 2 y0.length),(ow 3 y1.length),(.int .i64 y2),(.bool y3),(.int .i64 y4),(.int .i64 y5),(.int .i64 y6),(.int .i64 y7),(.int .i64 y8),(.int .i64 y9),(ow 4 y10.length),(ow 5 y11.length)]]),(ob 1 y12),(ob 1 y0),(ob 2 y1),(ob 2 y10),(ob 2 y11)] = (spec_l14Store_o57_p2 (((y0,y1,y2,y3),(y4,y5,y6,y7),y8,y9,y10,y11)) y12 y13 y14 y15).map g38p2_F:=by
  subst h1
  simp (maxSteps:=2000000) (maxDischargeDepth:=8) -implicitDefEqProofs [g38p2_c,spec_l14Store_o57_p2] <;> (try simp only [map_to_bind,g38p2_F])
@[reducible,simp] def g38l1_F:((K1 × List Int) ⊕ (K1 × List Int × Int)) → Out:=(Sum.elim (fun t=>(.ext 0,[],[(.live 12 [[(ow 2 t.1.1.1.length),(ow 3 t.1.1.2.1.length),(.int .i64 t.1.1.2.2.1),(.bool t.1.1.2.2.2),(.int .i64 t.1.2.1.1),(.int .i64 t.1.2.1.2.1),(.int .i64 t.1.2.1.2.2.1),(.int .i64 t.1.2.1.2.2.2),(.int .i64 t.1.2.2.1),(.int .i64 t.1.2.2.2.1),(ow 4 t.1.2.2.2.2.1.length),(ow 5 t.1.2.2.2.2.2.length)]]),(ob 1 t.2),(ob 1 t.1.1.1),(ob 2 t.1.1.2.1),(ob 2 t.1.2.2.2.2.1),(ob 2 t.1.2.2.2.2.2)])) (fun t=>(.ret,[(6,(.int .i64 t.2.2))],[(.live 12 [[(ow 2 t.1.1.1.length),(ow 3 t.1.1.2.1.length),(.int .i64 t.1.1.2.2.1),(.bool t.1.1.2.2.2),(.int .i64 t.1.2.1.1),(.int .i64 t.1.2.1.2.1),(.int .i64 t.1.2.1.2.2.1),(.int .i64 t.1.2.1.2.2.2),(.int .i64 t.1.2.2.1),(.int .i64 t.1.2.2.2.1),(ow 4 t.1.2.2.2.2.1.length),(ow 5 t.1.2.2.2.2.2.length)]]),(ob 1 t.2.1),(ob 1 t.1.1.1),(ob 2 t.1.1.2.1),(ob 2 t.1.2.2.2.2.1),(ob 2 t.1.2.2.2.2.2)])))
def spec_l14Store_o57_l1_b (v2:K1) (v3:List Int) (v4:Str) (v5:Int):Option ((K1 × List Int × Str × Int) ⊕ ((K1 × List Int) ⊕ (K1 × List Int × Int))):=if v5 < ((v3.length:Nat):Int) then if (IntKind.i64.wrap (v5 + 1)) < ((v3.length:Nat):Int) then if 0 ≤ (IntKind.i64.wrap (v5 + 1)) ∧ (IntKind.i64.wrap (v5 + 1)) < ((v3.length:Nat):Int) then (v3[((IntKind.i64.wrap (v5 + 1))).toNat]?).bind fun x6=>(spec_l14Store_o57_p2 v2 v3 v4 v5 x6).bind fun r20=>Sum.elim (fun u21=>some (.inr (.inr (u21.1,u21.2.1,u21.2.2)))) (fun u22=>some (.inl (u22.1,u22.2.1,u22.2.2.1,(IntKind.i64.wrap (u22.2.2.2 + 1))))) r20 else none else (spec_l14Store_o57_p2 v2 v3 v4 v5 0).bind fun r23=>Sum.elim (fun u24=>some (.inr (.inr (u24.1,u24.2.1,u24.2.2)))) (fun u25=>some (.inl (u25.1,u25.2.1,u25.2.2.1,(IntKind.i64.wrap (u25.2.2.2 + 1))))) r23 else some (.inr (.inl (v2,v3)))
theorem g38l1_b_eq  (v2:K1) (v3:List Int) (v4:Str) (v5:Int):X g38_S g38l1_cb (keepEnv [0,1,7,8] [(0,(.ptr 0 0 0)),(1,(ow 1 v3.length)),(7,(.str v4)),(8,(.int .i64 v5))]) [(.live 12 [[(ow 2 v2.1.1.length),(ow 3 v2.1.2.1.length),(.int .i64 v2.1.2.2.1),(.bool v2.1.2.2.2),(.int .i64 v2.2.1.1),(.int .i64 v2.2.1.2.1),(.int .i64 v2.2.1.2.2.1),(.int .i64 v2.2.1.2.2.2),(.int .i64 v2.2.2.1),(.int .i64 v2.2.2.2.1),(ow 4 v2.2.2.2.2.1.length),(ow 5 v2.2.2.2.2.2.length)]]),(ob 1 v3),(ob 1 v2.1.1),(ob 2 v2.1.2.1),(ob 2 v2.2.2.2.2.1),(ob 2 v2.2.2.2.2.2)] = (spec_l14Store_o57_l1_b v2 v3 v4 v5).map (Sum.elim (fun s=>(TX.nrm,[(0,(.ptr 0 0 0)),(1,(ow 1 s.2.1.length)),(7,(.str s.2.2.1)),(8,(.int .i64 s.2.2.2))],[(.live 12 [[(ow 2 s.1.1.1.length),(ow 3 s.1.1.2.1.length),(.int .i64 s.1.1.2.2.1),(.bool s.1.1.2.2.2),(.int .i64 s.1.2.1.1),(.int .i64 s.1.2.1.2.1),(.int .i64 s.1.2.1.2.2.1),(.int .i64 s.1.2.1.2.2.2),(.int .i64 s.1.2.2.1),(.int .i64 s.1.2.2.2.1),(ow 4 s.1.2.2.2.2.1.length),(ow 5 s.1.2.2.2.2.2.length)]]),(ob 1 s.2.1),(ob 1 s.1.1.1),(ob 2 s.1.1.2.1),(ob 2 s.1.2.2.2.2.1),(ob 2 s.1.2.2.2.2.2)])) g38l1_F):=by
  simp (maxSteps:=2000000) (maxDischargeDepth:=8) -implicitDefEqProofs [g38l1_cb,spec_l14Store_o57_l1_b] <;> (try simp only [map_to_bind,g38l1_F])
def spec_l14Store_o57_l1  (s:K1 × List Int × Str × Int):Option ((K1 × List Int) ⊕ (K1 × List Int × Int)):=loopO (fun s=>spec_l14Store_o57_l1_b  s.1 s.2.1 s.2.2.1 s.2.2.2) s
@[simp] theorem g38l1_eq (y0 y1 y2 y3 y4 y5 y6 y7 y8 y9 y10 y11)(y12:List Int)(y13 y14){n1:Nat}(h1:n1 = y12.length):X g38_S g38l1_c [(0,(.ptr 0 0 0)),(1,(ow 1 n1)),(7,(.str y13)),(8,(.int .i64 y14))] [(.live 12 [[(ow 2 y0.length),(ow 3 y1.length),(.int .i64 y2),(.bool y3),(.int .i64 y4),(.int .i64 y5),(.int .i64 y6),(.int .i64 y7),(.int .i64 y8),(.int .i64 y9),(ow 4 y10.length),(ow 5 y11.length)]]),(ob 1 y12),(ob 1 y0),(ob 2 y1),(ob 2 y10),(ob 2 y11)] = (spec_l14Store_o57_l1  (((y0,y1,y2,y3),(y4,y5,y6,y7),y8,y9,y10,y11),y12,y13,y14)).map g38l1_F:=by
  subst h1
  exact loop_X _ _ _ _ (by intro r; first | (simp; done) | (rcases r with r | r <;> simp; done) | (rcases r with r | r | r <;> simp; done) | (rcases r with r | r | r | r <;> simp)) (fun s=>g38l1_b_eq   s.1 s.2.1 s.2.2.1 s.2.2.2) (((y0,y1,y2,y3),(y4,y5,y6,y7),y8,y9,y10,y11),y12,y13,y14)
def spec_l14Store_o57 (a1:K1) (a2:List Int) (a3:Int) (a4:Int) (a5:List (Int × Int × Str)):Option (K1 × List Int × Int):=(spec_l14Encode ((a3,a4,a5))).bind fun r1=>(spec_l14Store_o57_l1 ((a1,a2,r1,0))).bind fun r26=>Sum.elim (fun u27=>some (u27.1,u27.2,0)) (fun u28=>some (u28.1,u28.2.1,u28.2.2)) r26
@[simp] def g38_O:(K1 × List Int × Int) → TV × List Blk:=fun r=>((.int .i64 r.2.2),[(.live 12 [[(ow 2 r.1.1.1.length),(ow 3 r.1.1.2.1.length),(.int .i64 r.1.1.2.2.1),(.bool r.1.1.2.2.2),(.int .i64 r.1.2.1.1),(.int .i64 r.1.2.1.2.1),(.int .i64 r.1.2.1.2.2.1),(.int .i64 r.1.2.1.2.2.2),(.int .i64 r.1.2.2.1),(.int .i64 r.1.2.2.2.1),(ow 4 r.1.2.2.2.2.1.length),(ow 5 r.1.2.2.2.2.2.length)]]),(ob 1 r.2.1),(ob 1 r.1.1.1),(ob 2 r.1.1.2.1),(ob 2 r.1.2.2.2.2.1),(ob 2 r.1.2.2.2.2.2)])
abbrev g38_T:=K1 × List Int × Int × Int × (List (Int × Int × Str))
def g38_E (a:g38_T):List TV:=[(.ptr 0 0 0),(ow 1 a.2.1.length),(.agg [(.int .i64 a.2.2.1),(.int .i64 a.2.2.2.1),(.vs (rows a.2.2.2.2))])]
def g38_B (a:g38_T):List Blk:=[(.live 12 [[(ow 2 a.1.1.1.length),(ow 3 a.1.1.2.1.length),(.int .i64 a.1.1.2.2.1),(.bool a.1.1.2.2.2),(.int .i64 a.1.2.1.1),(.int .i64 a.1.2.1.2.1),(.int .i64 a.1.2.1.2.2.1),(.int .i64 a.1.2.1.2.2.2),(.int .i64 a.1.2.2.1),(.int .i64 a.1.2.2.2.1),(ow 4 a.1.2.2.2.2.1.length),(ow 5 a.1.2.2.2.2.2.length)]]),(ob 1 a.2.1),(ob 1 a.1.1.1),(ob 2 a.1.1.2.1),(ob 2 a.1.2.2.2.2.1),(ob 2 a.1.2.2.2.2.2)]
theorem g38_run (a1:K1) (a2:List Int) (a3:Int) (a4:Int) (a5:List (Int × Int × Str)):callFn (X g38_S) g38_tf (g38_E (a1,a2,a3,a4,a5)) (g38_B (a1,a2,a3,a4,a5)) = (spec_l14Store_o57 a1 a2 a3 a4 a5).map g38_O:=by
  rw [callFn_eq]
  simp (maxSteps:=2000000) (maxDischargeDepth:=8) -implicitDefEqProofs [g38_tf,spec_l14Store_o57,g38_E,g38_B] <;> (try simp only [map_to_bind,g38_O])
def g38_r:MRule:=RmO g38_E g38_B (fun a=>(spec_l14Store_o57 a.1 a.2.1 a.2.2.1 a.2.2.2.1 a.2.2.2.2).bind fun r=>if r.2.1.length = a.2.1.length then some (r.1,(fixLen a.2.1 r.2.1),r.2.2) else none) g38_O
theorem g38_ok0:MRuleOk Tryz.prog 59 2 (RmO g38_E g38_B (fun a=>spec_l14Store_o57 a.1 a.2.1 a.2.2.1 a.2.2.2.1 a.2.2.2.2) g38_O):=ok_rmo (S:=g38_S) (tf:=g38_tf) (SysOk.on ⟨g73_ok,g130_ok,g127_ok,g131_ok,trivial⟩ ⟨g57_ok,trivial⟩) (trE_ok (ks:=[[0,1,7,8],[8],[7]]) Tryz.func59 (by kernel_rfl)) (by rfl) (fun _=>by simp [g38_B]) (fun _=>by simp) fun a=>g38_run a.1 a.2.1 a.2.2.1 a.2.2.2.1 a.2.2.2.2
theorem g38_ok:MRuleOk Tryz.prog 59 2 g38_r:=g38_ok0.weak fun a r hr=>by
  simp only [Option.bind_eq_some_iff] at hr
  obtain ⟨x,h1,h2⟩:=hr
  split at h2
  · rename_i hc
    simp only [Option.some.injEq] at h2
    rw [h1,← h2]
    simp [fixLen,hc]
  · cases h2
@[simp] theorem g38_app (y0:List Str)(y1:List (Int × Str))(y2 y3 y4 y5 y6 y7 y8 y9)(y10:List (Int × Str))(y11:List (Int × Str))(y12:List Int)(y13 y14 y15){n1:Nat}(h1:n1 = y12.length){n2:Nat}(h2:n2 = y0.length){n3:Nat}(h3:n3 = y1.length){n4:Nat}(h4:n4 = y10.length){n5:Nat}(h5:n5 = y11.length):g38_r [(.ptr 0 0 0),(ow 1 n1),(.agg [(.int .i64 y13),(.int .i64 y14),(.vs (rows y15))])] [(.live 12 [[(ow 2 n2),(ow 3 n3),(.int .i64 y2),(.bool y3),(.int .i64 y4),(.int .i64 y5),(.int .i64 y6),(.int .i64 y7),(.int .i64 y8),(.int .i64 y9),(ow 4 n4),(ow 5 n5)]]),(ob 1 y12),(ob 1 y0),(ob 2 y1),(ob 2 y10),(ob 2 y11)] = ((spec_l14Store_o57 (((y0,y1,y2,y3),(y4,y5,y6,y7),y8,y9,y10,y11)) y12 y13 y14 y15).bind fun r=>if r.2.1.length = y12.length then some (r.1,(fixLen y12 r.2.1),r.2.2) else none).map g38_O:=by
  subst h1 h2 h3 h4 h5
  exact RmO_app (enc:=g38_E) (encB:=g38_B) (by intro a b h h2; simp [g38_E,g38_B,Prod.ext_iff] at h h2 ⊢; simp [h,h2]) (((y0,y1,y2,y3),(y4,y5,y6,y7),y8,y9,y10,y11),y12,y13,y14,y15)
/-! spec.l14Create -/
def g33_tf:TFn:=⟨(.seq (.ops [bx 3 1,oo 4 (.mv (ki 0)),oo 5 (.mv (ki 0))]) (.trim [0,3] (.seq (.ops [mo 9 0,oo 10 (.bslice [(.int .i64 0)] 0 []),ln 11 3 3,ca 12 58 [.t 11],oo 13 (.callM 57 0 [0,1,2,3,4] [.t 9,.t 10,.t 12]),mo 8 13,oo 14 (.ext (.t 8) 0),oo 15 (.ext (.t 8) 1),mo 6 14,mo 7 15]) (.trim [0,3,6,7] (.seq (.seq (.ops [mo 16 7,bn 17 .neq (.t 16) (ki 0)]) (.trim [0,3,6,7,17] (.cond (.t 17) (.seq (.ops [mo 18 7,oo 4 (.mv (ki 0)),mo 5 18]) (.keep ⟨[(4,0),(5,0)],[(0,2),(6,1),(7,1),(8,1),(9,1)],1⟩ .ret)) .skip))) (.trim [0,3,6] (.seq (.ops [mo 19 0,mo 20 6,ln 21 3 3,oo 22 (.callM 59 0 [0,10,6,7,8,9] [.t 19,.t 20,.t 21]),mo 7 22]) (.trim [6,7] (.seq (.seq (.ops [mo 23 7,bn 24 .neq (.t 23) (ki 0)]) (.trim [6,7,24] (.cond (.t 24) (.seq (.ops [mo 25 7,oo 4 (.mv (ki 0)),mo 5 25]) (.keep ⟨[(4,0),(5,0)],[(0,2),(11,1),(12,1),(13,1),(14,1)],1⟩ .ret)) .skip))) (.trim [6] (.seq (.ops [mo 26 6,oo 27 (.iaddr 1 (.t 26) (ki 0)),ld 28 27,mo 4 28,oo 5 (.mv (ki 0))]) (.keep ⟨[(4,0),(5,0)],[(0,2),(11,1),(12,1),(13,1),(14,1)],1⟩ .ret)))))))))))),[.t 4,.t 5]⟩
abbrev g33_S:=Sys.on [(58,g107_r)] [((57,0),(1,g49_r)),((59,0),(2,g38_r))]
def spec_l14Create_o76 (a1:K1) (a2:Int) (a3:Int) (a4:List (Int × Int × Str)):Option (K1 × Int × Int):=(spec_l14Need ((a2,a3,a4))).bind fun r1=>(spec_l14Grow_ob7 a1 r1).bind fun r2=>if ¬(r2.2.2 = 0) then some (r2.1,0,r2.2.2) else (spec_l14Store_o57 r2.1 r2.2.1 a2 a3 a4).bind fun r3=>if r3.2.1.length = r2.2.1.length then if ¬(r3.2.2 = 0) then some (r3.1,0,r3.2.2) else if 0 ≤ (0:Int) ∧ (0:Int) < ((r2.2.1.length:Nat):Int) then (((fixLen r2.2.1 r3.2.1))[((0:Int)).toNat]?).bind fun x4=>some (r3.1,x4,0) else none else none
@[simp] def g33_O:(K1 × Int × Int) → TV × List Blk:=fun r=>((.tup [(.int .i64 r.2.1),(.int .i64 r.2.2)]),[(.live 12 [[(ow 1 r.1.1.1.length),(ow 2 r.1.1.2.1.length),(.int .i64 r.1.1.2.2.1),(.bool r.1.1.2.2.2),(.int .i64 r.1.2.1.1),(.int .i64 r.1.2.1.2.1),(.int .i64 r.1.2.1.2.2.1),(.int .i64 r.1.2.1.2.2.2),(.int .i64 r.1.2.2.1),(.int .i64 r.1.2.2.2.1),(ow 3 r.1.2.2.2.2.1.length),(ow 4 r.1.2.2.2.2.2.length)]]),(ob 1 r.1.1.1),(ob 2 r.1.1.2.1),(ob 2 r.1.2.2.2.2.1),(ob 2 r.1.2.2.2.2.2)])
abbrev g33_T:=K1 × Int × Int × (List (Int × Int × Str))
def g33_E (a:g33_T):List TV:=[(.ptr 0 0 0),(.agg [(.int .i64 a.2.1),(.int .i64 a.2.2.1),(.vs (rows a.2.2.2))])]
def g33_B (a:g33_T):List Blk:=[(.live 12 [[(ow 1 a.1.1.1.length),(ow 2 a.1.1.2.1.length),(.int .i64 a.1.1.2.2.1),(.bool a.1.1.2.2.2),(.int .i64 a.1.2.1.1),(.int .i64 a.1.2.1.2.1),(.int .i64 a.1.2.1.2.2.1),(.int .i64 a.1.2.1.2.2.2),(.int .i64 a.1.2.2.1),(.int .i64 a.1.2.2.2.1),(ow 3 a.1.2.2.2.2.1.length),(ow 4 a.1.2.2.2.2.2.length)]]),(ob 1 a.1.1.1),(ob 2 a.1.1.2.1),(ob 2 a.1.2.2.2.2.1),(ob 2 a.1.2.2.2.2.2)]
theorem g33_run (a1:K1) (a2:Int) (a3:Int) (a4:List (Int × Int × Str)):callFn (X g33_S) g33_tf (g33_E (a1,a2,a3,a4)) (g33_B (a1,a2,a3,a4)) = (spec_l14Create_o76 a1 a2 a3 a4).map g33_O:=by
  rw [callFn_eq]
  simp (maxSteps:=2000000) (maxDischargeDepth:=8) -implicitDefEqProofs [g33_tf,spec_l14Create_o76,g33_E,g33_B] <;> (try simp only [map_to_bind,g33_O])
def g33_r:MRule:=RmO g33_E g33_B (fun a=>spec_l14Create_o76 a.1 a.2.1 a.2.2.1 a.2.2.2) g33_O
theorem g33_ok:MRuleOk Tryz.prog 24 1 g33_r:=ok_rmo (S:=g33_S) (tf:=g33_tf) (SysOk.on ⟨g107_ok,trivial⟩ ⟨g49_ok,g38_ok,trivial⟩) (trE_ok (ks:=[]) Tryz.func24 (by kernel_rfl)) (by rfl) (fun _=>by simp [g33_B]) (fun _=>by simp) fun a=>g33_run a.1 a.2.1 a.2.2.1 a.2.2.2
@[simp] theorem g33_app (y0:List Str)(y1:List (Int × Str))(y2 y3 y4 y5 y6 y7 y8 y9)(y10:List (Int × Str))(y11:List (Int × Str))(y12 y13 y14){n1:Nat}(h1:n1 = y0.length){n2:Nat}(h2:n2 = y1.length){n3:Nat}(h3:n3 = y10.length){n4:Nat}(h4:n4 = y11.length):g33_r [(.ptr 0 0 0),(.agg [(.int .i64 y12),(.int .i64 y13),(.vs (rows y14))])] [(.live 12 [[(ow 1 n1),(ow 2 n2),(.int .i64 y2),(.bool y3),(.int .i64 y4),(.int .i64 y5),(.int .i64 y6),(.int .i64 y7),(.int .i64 y8),(.int .i64 y9),(ow 3 n3),(ow 4 n4)]]),(ob 1 y0),(ob 2 y1),(ob 2 y10),(ob 2 y11)] = (spec_l14Create_o76 (((y0,y1,y2,y3),(y4,y5,y6,y7),y8,y9,y10,y11)) y12 y13 y14).map g33_O:=by
  subst h1 h2 h3 h4
  exact RmO_app (enc:=g33_E) (encB:=g33_B) (by intro a b h h2; simp [g33_E,g33_B,Prod.ext_iff] at h h2 ⊢; simp [h,h2]) (((y0,y1,y2,y3),(y4,y5,y6,y7),y8,y9,y10,y11),y12,y13,y14)
/-! spec.CreateHeader -/
def g39_tf:TFn:=⟨(.seq (.ops [bx 2 0,bx 3 1,oo 4 (.alloc [.nils,.nils,(.int .i64 0),(.bool false),(.int .i64 0),(.int .i64 0),(.int .i64 0),(.int .i64 0),(.int .i64 0),(.int .i64 0),.nils,.nils]),oo 5 (.mv (ki 0)),oo 6 (.mv (ki 0))]) (.trim [2,3,4] (.seq (.seq (.ops [ca 10 21 [.t 2],nt 11 10,mo 12 11,⟨(some 13),(some (12,false)),(.load (some 3) (.t 3))⟩,⟨(some 14),(some (12,false)),(.call 22 [.t 13])⟩,⟨(some 15),(some (12,false)),(.un .not (.t 14))⟩,pk 16 (.t 12) (kb true) (.t 15)]) (.trim [2,3,4,16] (.cond (.t 16) (.seq (.ops [oo 17 (.build [.nils,.nils,(.int .i64 0),(.bool false),(.int .i64 0),(.int .i64 0),(.int .i64 0),(.int .i64 0),(.int .i64 0),(.int .i64 0),.nils,.nils] []),⟨none,none,(.store 12 (.t 4) (.t 17))⟩,oo 5 (.mv (ki 0)),oo 6 (.mv (ki 1))]) (.keep ⟨[(4,0),(5,0),(6,0)],[(2,2),(1000,1),(1001,1),(1002,1),(1003,1)],0⟩ .ret)) .skip))) (.trim [2,3,4] (.seq (.ops [ca 18 23 [.t 2],oo 7 (.alloc [.nils,.nils,(.int .i64 0),(.bool false),(.int .i64 0),(.int .i64 0),(.int .i64 0),(.int .i64 0),(.int .i64 0),(.int .i64 0),.nils,.nils]),⟨none,none,(.store 12 (.t 7) (.t 18))⟩]) (.trim [3,4,7] (.seq (.ops [ln 20 3 3,oo 21 (.callM 24 0 [8,4,5,6,7] [.t 7,.t 20]),mo 19 21,oo 22 (.ext (.t 19) 0),oo 23 (.ext (.t 19) 1),mo 8 22,mo 9 23]) (.trim [4,7,8,9] (.seq (.seq (.ops [mo 24 9,bn 25 .neq (.t 24) (ki 0)]) (.trim [4,7,8,9,25] (.cond (.t 25) (.seq (.ops [oo 26 (.build [.nils,.nils,(.int .i64 0),(.bool false),(.int .i64 0),(.int .i64 0),(.int .i64 0),(.int .i64 0),(.int .i64 0),(.int .i64 0),.nils,.nils] []),mo 27 9,⟨none,none,(.store 12 (.t 4) (.t 26))⟩,oo 5 (.mv (ki 0)),mo 6 27]) (.keep ⟨[(4,0),(5,0),(6,0)],[(2,2),(1000,1),(1001,1),(1002,1),(1003,1)],0⟩ .ret)) .skip))) (.trim [4,7,8] (.seq (.ops [ln 28 12 7,mo 29 8,⟨none,none,(.store 12 (.t 4) (.t 28))⟩,mo 5 29,oo 6 (.mv (ki 0))]) (.keep ⟨[(4,0),(5,0),(6,0)],[(2,2),(9,1),(10,1),(11,1),(12,1)],0⟩ .ret)))))))))))),[.cell 4 (some 12),.t 5,.t 6]⟩
abbrev g39_S:=Sys.on [(21,g142_r),(22,g143_r),(23,g126_r)] [((24,0),(1,g33_r))]
def spec_CreateHeader (a_p:K1) (a_h:K2):Option (K1 × Int × Int):=(spec_l12Ok a_p).bind fun r1=>if ¬(r1 = true) then some (((([]:List Str),([]:List (Int × Str)),0,false),(0,0,0,0),0,0,([]:List (Int × Str)),([]:List (Int × Str))),0,1) else (spec_l14Ok a_h).bind fun r2=>if ¬(r2 = true) then some (((([]:List Str),([]:List (Int × Str)),0,false),(0,0,0,0),0,0,([]:List (Int × Str)),([]:List (Int × Str))),0,1) else (spec_l12Own a_p).bind fun r3=>(spec_l14Create_o76 r3 a_h.1 a_h.2.1 a_h.2.2).bind fun r4=>if ¬(r4.2.2 = 0) then some (((([]:List Str),([]:List (Int × Str)),0,false),(0,0,0,0),0,0,([]:List (Int × Str)),([]:List (Int × Str))),0,r4.2.2) else some (r4.1,r4.2.1,0)
@[simp] def g39_O:(K1 × Int × Int) → TV × List Blk:=fun r=>((.tup [(.agg [(ow 1 r.1.1.1.length),(ow 2 r.1.1.2.1.length),(.int .i64 r.1.1.2.2.1),(.bool r.1.1.2.2.2),(.int .i64 r.1.2.1.1),(.int .i64 r.1.2.1.2.1),(.int .i64 r.1.2.1.2.2.1),(.int .i64 r.1.2.1.2.2.2),(.int .i64 r.1.2.2.1),(.int .i64 r.1.2.2.2.1),(ow 3 r.1.2.2.2.2.1.length),(ow 4 r.1.2.2.2.2.2.length)]),(.int .i64 r.2.1),(.int .i64 r.2.2)]),[(.live 12 [[(ow 1 r.1.1.1.length),(ow 2 r.1.1.2.1.length),(.int .i64 r.1.1.2.2.1),(.bool r.1.1.2.2.2),(.int .i64 r.1.2.1.1),(.int .i64 r.1.2.1.2.1),(.int .i64 r.1.2.1.2.2.1),(.int .i64 r.1.2.1.2.2.2),(.int .i64 r.1.2.2.1),(.int .i64 r.1.2.2.2.1),(ow 3 r.1.2.2.2.2.1.length),(ow 4 r.1.2.2.2.2.2.length)]]),(ob 1 r.1.1.1),(ob 2 r.1.1.2.1),(ob 2 r.1.2.2.2.2.1),(ob 2 r.1.2.2.2.2.2)])
def g39_E (a:K1 × K2):List TV:=[(.agg [(.vs (rows a.1.1.1)),(.vs (rows a.1.1.2.1)),(.int .i64 a.1.1.2.2.1),(.bool a.1.1.2.2.2),(.int .i64 a.1.2.1.1),(.int .i64 a.1.2.1.2.1),(.int .i64 a.1.2.1.2.2.1),(.int .i64 a.1.2.1.2.2.2),(.int .i64 a.1.2.2.1),(.int .i64 a.1.2.2.2.1),(.vs (rows a.1.2.2.2.2.1)),(.vs (rows a.1.2.2.2.2.2))]),(.agg [(.int .i64 a.2.1),(.int .i64 a.2.2.1),(.vs (rows a.2.2.2))])]
theorem g39_run (a_p:K1) (a_h:K2) :callFn (X g39_S) g39_tf (g39_E (a_p,a_h)) [] = (spec_CreateHeader a_p a_h).map g39_O:=by
  rw [callFn_eq]
  simp (maxSteps:=2000000) (maxDischargeDepth:=8) -implicitDefEqProofs [g39_tf,spec_CreateHeader,g39_E] <;> (try simp only [map_to_bind,g39_O])
def g39_r:Rule:=RlO g39_E (fun a=>spec_CreateHeader a.1 a.2) g39_O
theorem g39_ok:RuleOk Tryz.prog 7 g39_r:=ok_rlo (S:=g39_S) (tf:=g39_tf) (SysOk.on ⟨g142_ok,g143_ok,g126_ok,trivial⟩ ⟨g33_ok,trivial⟩) (trE_ok (ks:=[]) Tryz.func7 (by kernel_rfl)) fun a=>g39_run a.1 a.2
@[simp] theorem g39_app (y0 y1 y2 y3 y4 y5 y6 y7 y8 y9 y10 y11 y12 y13 y14):g39_r [(.agg [(.vs (rows y0)),(.vs (rows y1)),(.int .i64 y2),(.bool y3),(.int .i64 y4),(.int .i64 y5),(.int .i64 y6),(.int .i64 y7),(.int .i64 y8),(.int .i64 y9),(.vs (rows y10)),(.vs (rows y11))]),(.agg [(.int .i64 y12),(.int .i64 y13),(.vs (rows y14))])] = (spec_CreateHeader (((y0,y1,y2,y3),(y4,y5,y6,y7),y8,y9,y10,y11)) ((y12,y13,y14))).map g39_O :=
  RlO_app (enc:=g39_E) (by intro a b h; simp [g39_E,Prod.ext_iff] at h ⊢; simp [h]) (((y0,y1,y2,y3),(y4,y5,y6,y7),y8,y9,y10,y11),(y12,y13,y14))
/-! impl.within -/
def g132_tf:TFn:=⟨(.seq (.ops [oo 6 (.mv (kb false))]) (.trim [0,1,2] (.seq (.after (.ops [mo 7 0,mo 8 1,bn 9 .geq (.t 7) (.t 8),mo 10 9,⟨(some 11),(some (10,true)),(.mv (.t 0))⟩,⟨(some 12),(some (10,true)),(.mv (.t 2))⟩,⟨(some 13),(some (10,true)),(.bin .num .leq (.t 11) (.t 12))⟩,pk 14 (.t 10) (.t 13) (kb false),mo 6 14]) ⟨[(6,0)],[],0⟩) (.keep ⟨[(6,0)],[],0⟩ .ret)))),[.t 6]⟩
abbrev g132_S:=Sys.on [] []
def impl_within (a_n:Int) (a_low:Int) (a_high:Int):Option (Bool):=if a_n ≥ a_low then some ((decide (a_n ≤ a_high))) else some false
@[simp] def g132_O:Bool → TV × List Blk:=fun r=>((.bool r),[])
def g132_E (a:Int × Int × Int):List TV:=[(.int .i64 a.1),(.int .i64 a.2.1),(.int .i64 a.2.2)]
theorem g132_run (a_n:Int) (a_low:Int) (a_high:Int) :callFn (X g132_S) g132_tf (g132_E (a_n,a_low,a_high)) [] = (impl_within a_n a_low a_high).map g132_O:=by
  rw [callFn_eq]
  simp (maxSteps:=2000000) (maxDischargeDepth:=8) -implicitDefEqProofs [g132_tf,impl_within,g132_E] <;> (try simp only [map_to_bind,g132_O])
def g132_r:Rule:=RlO g132_E (fun a=>impl_within a.1 a.2.1 a.2.2) g132_O
theorem g132_ok:RuleOk Tryz.prog 65 g132_r:=ok_rlo (S:=g132_S) (tf:=g132_tf) (SysOk.on trivial trivial) (trE_ok (ks:=[]) Tryz.func65 (by kernel_rfl)) fun a=>g132_run a.1 a.2.1 a.2.2
@[simp] theorem g132_app (y0 y1 y2):g132_r [(.int .i64 y0),(.int .i64 y1),(.int .i64 y2)] = (impl_within y0 y1 y2).map g132_O :=
  RlO_app (enc:=g132_E) (by intro a b h; simp [g132_E,Prod.ext_iff] at h ⊢; simp [h]) (y0,y1,y2)
/-! impl.isBlock -/
def g114_tf:TFn:=⟨(.seq (.ops [oo 2 (.mv (kb false))]) (.trim [0] (.seq (.ops [mo 3 0,oo 4 (.len true (.t 3)),bn 5 .eql (.t 4) (ki 64),mo 2 5]) (.keep ⟨[(2,0)],[],0⟩ .ret)))),[.t 2]⟩
abbrev g114_S:=Sys.on [] []
def impl_isBlock (a_s:Str):Option (Bool):=some ((decide ((a_s.length:Int) = 64)))
@[simp] def g114_O:Bool → TV × List Blk:=fun r=>((.bool r),[])
def g114_E (a:Str):List TV:=[(.str a)]
theorem g114_run (a_s:Str) :callFn (X g114_S) g114_tf (g114_E a_s) [] = (impl_isBlock a_s).map g114_O:=by
  rw [callFn_eq]
  simp (maxSteps:=2000000) (maxDischargeDepth:=8) -implicitDefEqProofs [g114_tf,impl_isBlock,g114_E] <;> (try simp only [map_to_bind,g114_O])
def g114_r:Rule:=RlO g114_E (fun a=>impl_isBlock a) g114_O
theorem g114_ok:RuleOk Tryz.prog 102 g114_r:=ok_rlo (S:=g114_S) (tf:=g114_tf) (SysOk.on trivial trivial) (trE_ok (ks:=[]) Tryz.func102 (by kernel_rfl)) fun a=>g114_run a
@[simp] theorem g114_app (y0):g114_r [(.str y0)] = (impl_isBlock y0).map g114_O :=
  RlO_app (enc:=g114_E) (by intro a b h; simp [g114_E,Prod.ext_iff] at h ⊢; simp [h]) y0
/-! impl.ValidDisk.1 -/
def g40_tf:TFn:=⟨(.seq (.ops [oo 2 (.mv (kb false))]) (.trim [0] (.seq (.ops [mo 3 0,ca 4 102 [.t 3],nt 5 4,mo 2 5]) (.keep ⟨[(2,0)],[],0⟩ .ret)))),[.t 2]⟩
abbrev g40_S:=Sys.on [(102,g114_r)] []
def impl_ValidDisk_c1 (a_b:Str):Option (Bool):=(impl_isBlock a_b).bind fun r1=>some ((!r1))
@[simp] def g40_O:Bool → TV × List Blk:=fun r=>((.bool r),[])
def g40_E (a:Str):List TV:=[(.str a)]
theorem g40_run (a_b:Str) :callFn (X g40_S) g40_tf (g40_E a_b) [] = (impl_ValidDisk_c1 a_b).map g40_O:=by
  rw [callFn_eq]
  simp (maxSteps:=2000000) (maxDischargeDepth:=8) -implicitDefEqProofs [g40_tf,impl_ValidDisk_c1,g40_E] <;> (try simp only [map_to_bind,g40_O])
def g40_r:Rule:=RlO g40_E (fun a=>impl_ValidDisk_c1 a) g40_O
theorem g40_ok:RuleOk Tryz.prog 130 g40_r:=ok_rlo (S:=g40_S) (tf:=g40_tf) (SysOk.on ⟨g114_ok,trivial⟩ trivial) (trE_ok (ks:=[]) Tryz.func130 (by kernel_rfl)) fun a=>g40_run a
@[simp] theorem g40_app (y0):g40_r [(.str y0)] = (impl_ValidDisk_c1 y0).map g40_O :=
  RlO_app (enc:=g40_E) (by intro a b h; simp [g40_E,Prod.ext_iff] at h ⊢; simp [h]) y0
/-! slices.IndexFunc[[]string,string] -/
def g8l1_cb:TC:=(.seq (.ops [bn 9 .lss (.t 8) (.t 7)]) (.trim [0,1,7,8,9] (.seq (.cond (.t 9) .skip (.keep ⟨[],[],0⟩ (.exit 0))) (.trim [0,1,7,8] (.seq (.block 1 (.seq (.ops [mo 10 8,mo 5 10]) (.trim [0,1,5,7,8] (.seq (.ops [mo 11 1,mo 12 0,mo 13 5,ia 14 1 12 13,ld 15 14,oo 16 (.callv (.t 11) [.t 15])]) (.trim [0,1,5,7,8,16] (.cond (.t 16) (.seq (.ops [mo 17 5,mo 4 17]) (.keep ⟨[(4,0)],[],0⟩ .ret)) .skip)))))) (.trim [0,1,7,8] (.after (.ops [bn 18 .add (.t 8) (ki 1),mo 8 18]) ⟨[(0,0),(1,0),(7,0),(8,0)],[],0⟩)))))))
def g8l1_c:TC:=.loop [0,1,7,8] g8l1_cb
def g8_tf:TFn:=⟨(.seq (.ops [oo 4 (.mv (ki 0))]) (.trim [0,1] (.seq (.seq (.ops [mo 6 0,le 7 6,oo 8 (.mv (ki 0))]) (.trim [0,1,7,8] (.block 0 (.keep ⟨[(0,0),(1,0),(7,0),(8,0)],[],0⟩ g8l1_c)))) (.trim [] (.seq (.ops [oo 4 (.mv (ki (-1)))]) (.keep ⟨[(4,0)],[],0⟩ .ret)))))),[.t 4]⟩
abbrev g8_S:=Sys.on [(130,g40_r)] []
@[reducible,simp] def g8l1_F:((Unit) ⊕ (Int)) → Out:=(Sum.elim (fun t=>(.ext 0,[],[])) (fun t=>(.ret,[(4,(.int .i64 t))],[])))
def slices_IndexFunc_string_string__ValidDisk_c1_l1_b (v1:List Str) (v2:Int) (v3:Int):Option ((Int) ⊕ ((Unit) ⊕ (Int))):=if v3 < v2 then if 0 ≤ v3 then (v1[(v3).toNat]?).bind fun x4=>(impl_ValidDisk_c1 x4).bind fun r5=>if r5 = true then some (.inr (.inr v3)) else some (.inl ((IntKind.i64.wrap (v3 + 1)))) else none else some (.inr (.inl ()))
theorem g8l1_b_eq  (v1:List Str) (v2:Int) (v3:Int):X g8_S g8l1_cb (keepEnv [0,1,7,8] [(0,(.vs (rows v1))),(1,(.fn 130 [] [])),(7,(.int .i64 v2)),(8,(.int .i64 v3))]) [] = (slices_IndexFunc_string_string__ValidDisk_c1_l1_b v1 v2 v3).map (Sum.elim (fun s=>(TX.nrm,[(0,(.vs (rows v1))),(1,(.fn 130 [] [])),(7,(.int .i64 v2)),(8,(.int .i64 s))],[])) g8l1_F):=by
  simp (maxSteps:=2000000) (maxDischargeDepth:=8) -implicitDefEqProofs [g8l1_cb,slices_IndexFunc_string_string__ValidDisk_c1_l1_b] <;> (try simp only [map_to_bind,g8l1_F])
def slices_IndexFunc_string_string__ValidDisk_c1_l1 (v1:List Str) (v2:Int) (s:Int):Option ((Unit) ⊕ (Int)):=loopO (fun s=>slices_IndexFunc_string_string__ValidDisk_c1_l1_b v1 v2 s) s
@[simp] theorem g8l1_eq (y0 y1 y2):X g8_S g8l1_c [(0,(.vs (rows y0))),(1,(.fn 130 [] [])),(7,(.int .i64 y1)),(8,(.int .i64 y2))] [] = (slices_IndexFunc_string_string__ValidDisk_c1_l1 y0 y1 y2).map g8l1_F:=by
  exact loop_X _ _ _ _ (by intro r; first | (simp; done) | (rcases r with r | r <;> simp; done) | (rcases r with r | r | r <;> simp; done) | (rcases r with r | r | r | r <;> simp)) (fun s=>g8l1_b_eq  y0 y1 s) y2
def slices_IndexFunc_string_string__ValidDisk_c1 (a_s:List Str):Option (Int):=(slices_IndexFunc_string_string__ValidDisk_c1_l1 a_s ((a_s.length:Int)) 0).bind fun r6=>Sum.elim (fun u7=>some ((-1))) (fun u8=>some u8) r6
@[simp] def g8_O:Int → TV × List Blk:=fun r=>((.int .i64 r),[])
def g8_E (a:List Str):List TV:=[(.vs (rows a)),(.fn 130 [] [])]
theorem g8_run (a_s:List Str) :callFn (X g8_S) g8_tf (g8_E a_s) [] = (slices_IndexFunc_string_string__ValidDisk_c1 a_s).map g8_O:=by
  rw [callFn_eq]
  simp (maxSteps:=2000000) (maxDischargeDepth:=8) -implicitDefEqProofs [g8_tf,slices_IndexFunc_string_string__ValidDisk_c1,g8_E] <;> (try simp only [map_to_bind,g8_O])
def g8_r:Rule:=RlO g8_E (fun a=>slices_IndexFunc_string_string__ValidDisk_c1 a) g8_O
theorem g8_ok:RuleOk Tryz.prog 151 g8_r:=ok_rlo (S:=g8_S) (tf:=g8_tf) (SysOk.on ⟨g40_ok,trivial⟩ trivial) (trE_ok (ks:=[[0,1,7,8]]) Tryz.func151 (by kernel_rfl)) fun a=>g8_run a
@[simp] theorem g8_app (y0):g8_r [(.vs (rows y0)),(.fn 130 [] [])] = (slices_IndexFunc_string_string__ValidDisk_c1 y0).map g8_O :=
  RlO_app (enc:=g8_E) (by intro a b h; simp [g8_E,Prod.ext_iff] at h ⊢; simp [h]) y0
/-! slices.ContainsFunc[[]string,string] -/
def g7_tf:TFn:=⟨(.seq (.ops [oo 4 (.mv (kb false))]) (.trim [0,1] (.seq (.ops [mo 5 0,mo 6 1,ca 7 151 [.t 5,.t 6],bn 8 .geq (.t 7) (ki 0),mo 4 8]) (.keep ⟨[(4,0)],[],0⟩ .ret)))),[.t 4]⟩
abbrev g7_S:=Sys.on [(151,g8_r)] []
def slices_ContainsFunc_string_string__ValidDisk_c1 (a_s:List Str):Option (Bool):=(slices_IndexFunc_string_string__ValidDisk_c1 a_s).bind fun r1=>some ((decide (r1 ≥ 0)))
@[simp] def g7_O:Bool → TV × List Blk:=fun r=>((.bool r),[])
def g7_E (a:List Str):List TV:=[(.vs (rows a)),(.fn 130 [] [])]
theorem g7_run (a_s:List Str) :callFn (X g7_S) g7_tf (g7_E a_s) [] = (slices_ContainsFunc_string_string__ValidDisk_c1 a_s).map g7_O:=by
  rw [callFn_eq]
  simp (maxSteps:=2000000) (maxDischargeDepth:=8) -implicitDefEqProofs [g7_tf,slices_ContainsFunc_string_string__ValidDisk_c1,g7_E] <;> (try simp only [map_to_bind,g7_O])
def g7_r:Rule:=RlO g7_E (fun a=>slices_ContainsFunc_string_string__ValidDisk_c1 a) g7_O
theorem g7_ok:RuleOk Tryz.prog 129 g7_r:=ok_rlo (S:=g7_S) (tf:=g7_tf) (SysOk.on ⟨g8_ok,trivial⟩ trivial) (trE_ok (ks:=[]) Tryz.func129 (by kernel_rfl)) fun a=>g7_run a
@[simp] theorem g7_app (y0):g7_r [(.vs (rows y0)),(.fn 130 [] [])] = (slices_ContainsFunc_string_string__ValidDisk_c1 y0).map g7_O :=
  RlO_app (enc:=g7_E) (by intro a b h; simp [g7_E,Prod.ext_iff] at h ⊢; simp [h]) y0
/-! impl.isIndex -/
def g115_tf:TFn:=⟨(.seq (.ops [oo 4 (.mv (kb false))]) (.trim [0,1] (.seq (.ops [mo 5 0,mo 6 1,bn 7 .sub (.t 6) (ki 1),ca 8 65 [.t 5,ki 0,.t 7],mo 4 8]) (.keep ⟨[(4,0)],[],0⟩ .ret)))),[.t 4]⟩
abbrev g115_S:=Sys.on [(65,g132_r)] []
def impl_isIndex (a_i:Int) (a_many:Int):Option (Bool):=(impl_within a_i 0 ((IntKind.i64.wrap (a_many - 1)))).bind fun r1=>some r1
@[simp] def g115_O:Bool → TV × List Blk:=fun r=>((.bool r),[])
def g115_E (a:Int × Int):List TV:=[(.int .i64 a.1),(.int .i64 a.2)]
theorem g115_run (a_i:Int) (a_many:Int) :callFn (X g115_S) g115_tf (g115_E (a_i,a_many)) [] = (impl_isIndex a_i a_many).map g115_O:=by
  rw [callFn_eq]
  simp (maxSteps:=2000000) (maxDischargeDepth:=8) -implicitDefEqProofs [g115_tf,impl_isIndex,g115_E] <;> (try simp only [map_to_bind,g115_O])
def g115_r:Rule:=RlO g115_E (fun a=>impl_isIndex a.1 a.2) g115_O
theorem g115_ok:RuleOk Tryz.prog 133 g115_r:=ok_rlo (S:=g115_S) (tf:=g115_tf) (SysOk.on ⟨g132_ok,trivial⟩ trivial) (trE_ok (ks:=[]) Tryz.func133 (by kernel_rfl)) fun a=>g115_run a.1 a.2
@[simp] theorem g115_app (y0 y1):g115_r [(.int .i64 y0),(.int .i64 y1)] = (impl_isIndex y0 y1).map g115_O :=
  RlO_app (enc:=g115_E) (by intro a b h; simp [g115_E,Prod.ext_iff] at h ⊢; simp [h]) (y0,y1)
/-! impl.ValidDisk.2 -/
def g41_tf:TFn:=⟨(.seq (.ops [bx 2 0,oo 3 (.mv (kb false))]) (.trim [1,2] (.seq (.after (.ops [fa 4 0 2,ld 5 4,fa 6 0 1,ld 7 6,le 8 7,ca 9 133 [.t 5,.t 8],nt 10 9,mo 11 10,⟨(some 12),(some (11,false)),(.faddr 1 (.t 2))⟩,⟨(some 13),(some (11,false)),(.load none (.t 12))⟩,⟨(some 14),(some (11,false)),(.call 102 [.t 13])⟩,⟨(some 15),(some (11,false)),(.un .not (.t 14))⟩,pk 16 (.t 11) (kb true) (.t 15),mo 3 16]) ⟨[(3,0)],[],0⟩) (.keep ⟨[(3,0)],[],0⟩ .ret)))),[.t 3]⟩
abbrev g41_S:=Sys.on [(133,g115_r),(102,g114_r)] []
def impl_ValidDisk_c2 (a_p:Int × Str) (a_p':List Str) (a_p'':List (Int × Str)) (a_p''':Int) (a_p'''':Bool):Option (Bool):=(impl_isIndex a_p.1 ((a_p'.length:Int))).bind fun r1=>if ¬(r1 = true) then some true else (impl_isBlock a_p.2).bind fun r2=>some ((!r2))
@[simp] def g41_O:Bool → TV × List Blk:=fun r=>((.bool r),[])
def g41_E (a:(Int × Str) × List Str × (List (Int × Str)) × Int × Bool):List TV:=[(.agg [(.int .i64 a.1.1),(.str a.1.2)]),(.vp [(.vs (rows a.2.1)),(.vs (rows a.2.2.1)),(.int .i64 a.2.2.2.1),(.bool a.2.2.2.2)])]
theorem g41_run (a_p:Int × Str) (a_p':List Str) (a_p'':List (Int × Str)) (a_p''':Int) (a_p'''':Bool) :callFn (X g41_S) g41_tf (g41_E (a_p,a_p',a_p'',a_p''',a_p'''')) [] = (impl_ValidDisk_c2 a_p a_p' a_p'' a_p''' a_p'''').map g41_O:=by
  rw [callFn_eq]
  simp (maxSteps:=2000000) (maxDischargeDepth:=8) -implicitDefEqProofs [g41_tf,impl_ValidDisk_c2,g41_E] <;> (try simp only [map_to_bind,g41_O])
def g41_r:Rule:=RlO g41_E (fun a=>impl_ValidDisk_c2 a.1 a.2.1 a.2.2.1 a.2.2.2.1 a.2.2.2.2) g41_O
theorem g41_ok:RuleOk Tryz.prog 132 g41_r:=ok_rlo (S:=g41_S) (tf:=g41_tf) (SysOk.on ⟨g115_ok,g114_ok,trivial⟩ trivial) (trE_ok (ks:=[]) Tryz.func132 (by kernel_rfl)) fun a=>g41_run a.1 a.2.1 a.2.2.1 a.2.2.2.1 a.2.2.2.2
@[simp] theorem g41_app (y0 y1 y2 y3 y4 y5):g41_r [(.agg [(.int .i64 y0),(.str y1)]),(.vp [(.vs (rows y2)),(.vs (rows y3)),(.int .i64 y4),(.bool y5)])] = (impl_ValidDisk_c2 ((y0,y1)) y2 y3 y4 y5).map g41_O :=
  RlO_app (enc:=g41_E) (by intro a b h; simp [g41_E,Prod.ext_iff] at h ⊢; simp [h]) ((y0,y1),y2,y3,y4,y5)
/-! slices.IndexFunc[[]impl.Put,impl.Put] -/
def g6l1_cb:TC:=(.seq (.ops [bn 9 .lss (.t 8) (.t 7)]) (.trim [0,1,7,8,9] (.seq (.cond (.t 9) .skip (.keep ⟨[],[],0⟩ (.exit 0))) (.trim [0,1,7,8] (.seq (.block 1 (.seq (.ops [mo 10 8,mo 5 10]) (.trim [0,1,5,7,8] (.seq (.ops [mo 11 1,mo 12 0,mo 13 5,ia 14 2 12 13,ln 15 2 14,oo 16 (.callv (.t 11) [.t 15])]) (.trim [0,1,5,7,8,16] (.cond (.t 16) (.seq (.ops [mo 17 5,mo 4 17]) (.keep ⟨[(4,0)],[],0⟩ .ret)) .skip)))))) (.trim [0,1,7,8] (.after (.ops [bn 18 .add (.t 8) (ki 1),mo 8 18]) ⟨[(0,0),(1,0),(7,0),(8,0)],[],0⟩)))))))
def g6l1_c:TC:=.loop [0,1,7,8] g6l1_cb
def g6_tf:TFn:=⟨(.seq (.ops [oo 4 (.mv (ki 0))]) (.trim [0,1] (.seq (.seq (.ops [mo 6 0,le 7 6,oo 8 (.mv (ki 0))]) (.trim [0,1,7,8] (.block 0 (.keep ⟨[(0,0),(1,0),(7,0),(8,0)],[],0⟩ g6l1_c)))) (.trim [] (.seq (.ops [oo 4 (.mv (ki (-1)))]) (.keep ⟨[(4,0)],[],0⟩ .ret)))))),[.t 4]⟩
abbrev g6_S:=Sys.on [(132,g41_r)] []
@[reducible,simp] def g6l1_F:((Unit) ⊕ (Int)) → Out:=(Sum.elim (fun t=>(.ext 0,[],[])) (fun t=>(.ret,[(4,(.int .i64 t))],[])))
def slices_IndexFunc_impl_Put_impl_Put__ValidDisk_c2_l1_b (v1:List (Int × Str)) (v2:List Str) (v3:List (Int × Str)) (v4:Int) (v5:Bool) (v6:Int) (v7:Int):Option ((Int) ⊕ ((Unit) ⊕ (Int))):=if v7 < v6 then if 0 ≤ v7 then (v1[(v7).toNat]?).bind fun x8=>(impl_ValidDisk_c2 x8 v2 v3 v4 v5).bind fun r9=>if r9 = true then some (.inr (.inr v7)) else some (.inl ((IntKind.i64.wrap (v7 + 1)))) else none else some (.inr (.inl ()))
theorem g6l1_b_eq  (v1:List (Int × Str)) (v2:List Str) (v3:List (Int × Str)) (v4:Int) (v5:Bool) (v6:Int) (v7:Int):X g6_S g6l1_cb (keepEnv [0,1,7,8] [(0,(.vs (rows v1))),(1,(.fn 132 [] [(.vp [(.vs (rows v2)),(.vs (rows v3)),(.int .i64 v4),(.bool v5)])])),(7,(.int .i64 v6)),(8,(.int .i64 v7))]) [] = (slices_IndexFunc_impl_Put_impl_Put__ValidDisk_c2_l1_b v1 v2 v3 v4 v5 v6 v7).map (Sum.elim (fun s=>(TX.nrm,[(0,(.vs (rows v1))),(1,(.fn 132 [] [(.vp [(.vs (rows v2)),(.vs (rows v3)),(.int .i64 v4),(.bool v5)])])),(7,(.int .i64 v6)),(8,(.int .i64 s))],[])) g6l1_F):=by
  simp (maxSteps:=2000000) (maxDischargeDepth:=8) -implicitDefEqProofs [g6l1_cb,slices_IndexFunc_impl_Put_impl_Put__ValidDisk_c2_l1_b] <;> (try simp only [map_to_bind,g6l1_F])
def slices_IndexFunc_impl_Put_impl_Put__ValidDisk_c2_l1 (v1:List (Int × Str)) (v2:List Str) (v3:List (Int × Str)) (v4:Int) (v5:Bool) (v6:Int) (s:Int):Option ((Unit) ⊕ (Int)):=loopO (fun s=>slices_IndexFunc_impl_Put_impl_Put__ValidDisk_c2_l1_b v1 v2 v3 v4 v5 v6 s) s
@[simp] theorem g6l1_eq (y0 y1 y2 y3 y4 y5 y6):X g6_S g6l1_c [(0,(.vs (rows y0))),(1,(.fn 132 [] [(.vp [(.vs (rows y1)),(.vs (rows y2)),(.int .i64 y3),(.bool y4)])])),(7,(.int .i64 y5)),(8,(.int .i64 y6))] [] = (slices_IndexFunc_impl_Put_impl_Put__ValidDisk_c2_l1 y0 y1 y2 y3 y4 y5 y6).map g6l1_F:=by
  exact loop_X _ _ _ _ (by intro r; first | (simp; done) | (rcases r with r | r <;> simp; done) | (rcases r with r | r | r <;> simp; done) | (rcases r with r | r | r | r <;> simp)) (fun s=>g6l1_b_eq  y0 y1 y2 y3 y4 y5 s) y6
def slices_IndexFunc_impl_Put_impl_Put__ValidDisk_c2 (a_s:List (Int × Str)) (a_f:List Str) (a_f':List (Int × Str)) (a_f'':Int) (a_f''':Bool):Option (Int):=(slices_IndexFunc_impl_Put_impl_Put__ValidDisk_c2_l1 a_s a_f a_f' a_f'' a_f''' ((a_s.length:Int)) 0).bind fun r10=>Sum.elim (fun u11=>some ((-1))) (fun u12=>some u12) r10
@[simp] def g6_O:Int → TV × List Blk:=fun r=>((.int .i64 r),[])
def g6_E (a:(List (Int × Str)) × List Str × (List (Int × Str)) × Int × Bool):List TV:=[(.vs (rows a.1)),(.fn 132 [] [(.vp [(.vs (rows a.2.1)),(.vs (rows a.2.2.1)),(.int .i64 a.2.2.2.1),(.bool a.2.2.2.2)])])]
theorem g6_run (a_s:List (Int × Str)) (a_f:List Str) (a_f':List (Int × Str)) (a_f'':Int) (a_f''':Bool) :callFn (X g6_S) g6_tf (g6_E (a_s,a_f,a_f',a_f'',a_f''')) [] = (slices_IndexFunc_impl_Put_impl_Put__ValidDisk_c2 a_s a_f a_f' a_f'' a_f''').map g6_O:=by
  rw [callFn_eq]
  simp (maxSteps:=2000000) (maxDischargeDepth:=8) -implicitDefEqProofs [g6_tf,slices_IndexFunc_impl_Put_impl_Put__ValidDisk_c2,g6_E] <;> (try simp only [map_to_bind,g6_O])
def g6_r:Rule:=RlO g6_E (fun a=>slices_IndexFunc_impl_Put_impl_Put__ValidDisk_c2 a.1 a.2.1 a.2.2.1 a.2.2.2.1 a.2.2.2.2) g6_O
theorem g6_ok:RuleOk Tryz.prog 152 g6_r:=ok_rlo (S:=g6_S) (tf:=g6_tf) (SysOk.on ⟨g41_ok,trivial⟩ trivial) (trE_ok (ks:=[[0,1,7,8]]) Tryz.func152 (by kernel_rfl)) fun a=>g6_run a.1 a.2.1 a.2.2.1 a.2.2.2.1 a.2.2.2.2
@[simp] theorem g6_app (y0 y1 y2 y3 y4):g6_r [(.vs (rows y0)),(.fn 132 [] [(.vp [(.vs (rows y1)),(.vs (rows y2)),(.int .i64 y3),(.bool y4)])])] = (slices_IndexFunc_impl_Put_impl_Put__ValidDisk_c2 y0 y1 y2 y3 y4).map g6_O :=
  RlO_app (enc:=g6_E) (by intro a b h; simp [g6_E,Prod.ext_iff] at h ⊢; simp [h]) (y0,y1,y2,y3,y4)
/-! slices.ContainsFunc[[]impl.Put,impl.Put] -/
def g5_tf:TFn:=⟨(.seq (.ops [oo 4 (.mv (kb false))]) (.trim [0,1] (.seq (.ops [mo 5 0,mo 6 1,ca 7 152 [.t 5,.t 6],bn 8 .geq (.t 7) (ki 0),mo 4 8]) (.keep ⟨[(4,0)],[],0⟩ .ret)))),[.t 4]⟩
abbrev g5_S:=Sys.on [(152,g6_r)] []
def slices_ContainsFunc_impl_Put_impl_Put__ValidDisk_c2 (a_s:List (Int × Str)) (a_f:List Str) (a_f':List (Int × Str)) (a_f'':Int) (a_f''':Bool):Option (Bool):=(slices_IndexFunc_impl_Put_impl_Put__ValidDisk_c2 a_s a_f a_f' a_f'' a_f''').bind fun r1=>some ((decide (r1 ≥ 0)))
@[simp] def g5_O:Bool → TV × List Blk:=fun r=>((.bool r),[])
def g5_E (a:(List (Int × Str)) × List Str × (List (Int × Str)) × Int × Bool):List TV:=[(.vs (rows a.1)),(.fn 132 [] [(.vp [(.vs (rows a.2.1)),(.vs (rows a.2.2.1)),(.int .i64 a.2.2.2.1),(.bool a.2.2.2.2)])])]
theorem g5_run (a_s:List (Int × Str)) (a_f:List Str) (a_f':List (Int × Str)) (a_f'':Int) (a_f''':Bool) :callFn (X g5_S) g5_tf (g5_E (a_s,a_f,a_f',a_f'',a_f''')) [] = (slices_ContainsFunc_impl_Put_impl_Put__ValidDisk_c2 a_s a_f a_f' a_f'' a_f''').map g5_O:=by
  rw [callFn_eq]
  simp (maxSteps:=2000000) (maxDischargeDepth:=8) -implicitDefEqProofs [g5_tf,slices_ContainsFunc_impl_Put_impl_Put__ValidDisk_c2,g5_E] <;> (try simp only [map_to_bind,g5_O])
def g5_r:Rule:=RlO g5_E (fun a=>slices_ContainsFunc_impl_Put_impl_Put__ValidDisk_c2 a.1 a.2.1 a.2.2.1 a.2.2.2.1 a.2.2.2.2) g5_O
theorem g5_ok:RuleOk Tryz.prog 131 g5_r:=ok_rlo (S:=g5_S) (tf:=g5_tf) (SysOk.on ⟨g6_ok,trivial⟩ trivial) (trE_ok (ks:=[]) Tryz.func131 (by kernel_rfl)) fun a=>g5_run a.1 a.2.1 a.2.2.1 a.2.2.2.1 a.2.2.2.2
@[simp] theorem g5_app (y0 y1 y2 y3 y4):g5_r [(.vs (rows y0)),(.fn 132 [] [(.vp [(.vs (rows y1)),(.vs (rows y2)),(.int .i64 y3),(.bool y4)])])] = (slices_ContainsFunc_impl_Put_impl_Put__ValidDisk_c2 y0 y1 y2 y3 y4).map g5_O :=
  RlO_app (enc:=g5_E) (by intro a b h; simp [g5_E,Prod.ext_iff] at h ⊢; simp [h]) (y0,y1,y2,y3,y4)
/-! impl.ValidDisk -/
def g74_tf:TFn:=⟨(.seq (.ops [bx 1 0,oo 2 (.mv (kb false))]) (.trim [1] (.seq (.seq (.ops [fa 3 0 1,ld 4 3,le 5 4,ca 6 65 [.t 5,ki 16,ki 256],nt 7 6,mo 8 7,⟨(some 9),(some (8,false)),(.faddr 1 (.t 1))⟩,⟨(some 10),(some (8,false)),(.load none (.t 9))⟩,⟨(some 11),(some (8,false)),(.len false (.t 10))⟩,⟨(some 12),(some (8,false)),(.bin .num .gtr (.t 11) (ki 600))⟩,pk 13 (.t 8) (kb true) (.t 12),mo 14 13,⟨(some 15),(some (14,false)),(.faddr 2 (.t 1))⟩,⟨(some 16),(some (14,false)),(.load none (.t 15))⟩,⟨(some 17),(some (14,false)),(.call 65 [.t 16,(ki (-1)),ki 100000])⟩,⟨(some 18),(some (14,false)),(.un .not (.t 17))⟩,pk 19 (.t 14) (kb true) (.t 18)]) (.trim [1,19] (.cond (.t 19) (.seq (.ops [oo 2 (.mv (kb false))]) (.keep ⟨[(2,0)],[],0⟩ .ret)) .skip))) (.trim [1] (.seq (.seq (.ops [fa 20 0 1,ld 21 20,oo 22 (.call 129 [.t 21,(.c (.fn 130 [] []))])]) (.trim [1,22] (.cond (.t 22) (.seq (.ops [oo 2 (.mv (kb false))]) (.keep ⟨[(2,0)],[],0⟩ .ret)) .skip))) (.trim [1] (.seq (.ops [fa 23 1 1,ld 24 23,oo 25 (.mkfn 132 [] [.t 1]),ca 26 131 [.t 24,.t 25],nt 27 26,mo 2 27]) (.keep ⟨[(2,0)],[],0⟩ .ret)))))))),[.t 2]⟩
abbrev g74_S:=Sys.on [(65,g132_r),(129,g7_r),(131,g5_r)] []
def impl_ValidDisk (a_d:K0):Option (Bool):=(impl_within ((a_d.1.length:Int)) 16 256).bind fun r1=>if ¬(r1 = true) then some false else if (a_d.2.1.length:Int) > 600 then some false else (impl_within a_d.2.2.1 ((-1)) 100000).bind fun r2=>if ¬(r2 = true) then some false else (slices_ContainsFunc_string_string__ValidDisk_c1 a_d.1).bind fun r3=>if r3 = true then some false else (slices_ContainsFunc_impl_Put_impl_Put__ValidDisk_c2 a_d.2.1 a_d.1 a_d.2.1 a_d.2.2.1 a_d.2.2.2).bind fun r4=>some ((!r4))
@[simp] def g74_O:Bool → TV × List Blk:=fun r=>((.bool r),[])
def g74_E (a:K0):List TV:=[(.agg [(.vs (rows a.1)),(.vs (rows a.2.1)),(.int .i64 a.2.2.1),(.bool a.2.2.2)])]
theorem g74_run (a_d:K0) :callFn (X g74_S) g74_tf (g74_E a_d) [] = (impl_ValidDisk a_d).map g74_O:=by
  rw [callFn_eq]
  simp (maxSteps:=2000000) (maxDischargeDepth:=8) -implicitDefEqProofs [g74_tf,impl_ValidDisk,g74_E] <;> (try simp only [map_to_bind,g74_O])
def g74_r:Rule:=RlO g74_E (fun a=>impl_ValidDisk a) g74_O
theorem g74_ok:RuleOk Tryz.prog 100 g74_r:=ok_rlo (S:=g74_S) (tf:=g74_tf) (SysOk.on ⟨g132_ok,g7_ok,g5_ok,trivial⟩ trivial) (trE_ok (ks:=[]) Tryz.func100 (by kernel_rfl)) fun a=>g74_run a
@[simp] theorem g74_app (y0 y1 y2 y3):g74_r [(.agg [(.vs (rows y0)),(.vs (rows y1)),(.int .i64 y2),(.bool y3)])] = (impl_ValidDisk ((y0,y1,y2,y3))).map g74_O :=
  RlO_app (enc:=g74_E) (by intro a b h; simp [g74_E,Prod.ext_iff] at h ⊢; simp [h]) ((y0,y1,y2,y3))
/-! impl.ValidSuper -/
def g59_tf:TFn:=⟨(.seq (.ops [bx 1 0,oo 2 (.mv (kb false))]) (.trim [1] (.seq (.after (.ops [fa 3 0 1,ld 4 3,ca 5 65 [.t 4,ki 16,ki 256],mo 6 5,⟨(some 7),(some (6,true)),(.faddr 1 (.t 1))⟩,⟨(some 8),(some (6,true)),(.load none (.t 7))⟩,⟨(some 9),(some (6,true)),(.faddr 0 (.t 1))⟩,⟨(some 10),(some (6,true)),(.load none (.t 9))⟩,⟨(some 11),(some (6,true)),(.bin .num .sub (.t 10) (ki 4))⟩,⟨(some 12),(some (6,true)),(.mm false (ki 64) (.t 11))⟩,⟨(some 13),(some (6,true)),(.call 65 [.t 8,ki 8,.t 12])⟩,pk 14 (.t 6) (.t 13) (kb false),mo 15 14,⟨(some 16),(some (15,true)),(.faddr 2 (.t 1))⟩,⟨(some 17),(some (15,true)),(.load none (.t 16))⟩,⟨(some 18),(some (15,true)),(.call 65 [.t 17,ki 0,ki 1000000000000])⟩,pk 19 (.t 15) (.t 18) (kb false),mo 20 19,⟨(some 21),(some (20,true)),(.faddr 3 (.t 1))⟩,⟨(some 22),(some (20,true)),(.load none (.t 21))⟩,⟨(some 23),(some (20,true)),(.call 65 [.t 22,ki 0,ki 1000000000000])⟩,pk 24 (.t 20) (.t 23) (kb false),mo 2 24]) ⟨[(2,0)],[],0⟩) (.keep ⟨[(2,0)],[],0⟩ .ret)))),[.t 2]⟩
abbrev g59_S:=Sys.on [(65,g132_r)] []
def impl_ValidSuper (a_s:Int × Int × Int × Int):Option (Bool):=(impl_within a_s.1 16 256).bind fun r1=>if r1 = true then (impl_within a_s.2.1 8 ((min 64 ((IntKind.i64.wrap (a_s.1 - 4)))))).bind fun r2=>if r2 = true then (impl_within a_s.2.2.1 0 1000000000000).bind fun r3=>if r3 = true then (impl_within a_s.2.2.2 0 1000000000000).bind fun r4=>some r4 else some false else some false else some false
@[simp] def g59_O:Bool → TV × List Blk:=fun r=>((.bool r),[])
def g59_E (a:(Int × Int × Int × Int)):List TV:=[(.agg [(.int .i64 a.1),(.int .i64 a.2.1),(.int .i64 a.2.2.1),(.int .i64 a.2.2.2)])]
theorem g59_run (a_s:Int × Int × Int × Int) :callFn (X g59_S) g59_tf (g59_E a_s) [] = (impl_ValidSuper a_s).map g59_O:=by
  rw [callFn_eq]
  simp (maxSteps:=2000000) (maxDischargeDepth:=8) -implicitDefEqProofs [g59_tf,impl_ValidSuper,g59_E] <;> (try simp only [map_to_bind,g59_O])
def g59_r:Rule:=RlO g59_E (fun a=>impl_ValidSuper a) g59_O
theorem g59_ok:RuleOk Tryz.prog 101 g59_r:=ok_rlo (S:=g59_S) (tf:=g59_tf) (SysOk.on ⟨g132_ok,trivial⟩ trivial) (trE_ok (ks:=[]) Tryz.func101 (by kernel_rfl)) fun a=>g59_run a
@[simp] theorem g59_app (y0 y1 y2 y3):g59_r [(.agg [(.int .i64 y0),(.int .i64 y1),(.int .i64 y2),(.int .i64 y3)])] = (impl_ValidSuper ((y0,y1,y2,y3))).map g59_O :=
  RlO_app (enc:=g59_E) (by intro a b h; simp [g59_E,Prod.ext_iff] at h ⊢; simp [h]) ((y0,y1,y2,y3))
/-! impl.superFits -/
def g75_tf:TFn:=⟨(.seq (.ops [bx 2 0,bx 3 1,oo 4 (.mv (kb false))]) (.trim [2,3] (.seq (.after (.ops [ln 5 4 2,ca 6 100 [.t 5],mo 7 6,⟨(some 8),(some (7,true)),(.load (some 4) (.t 3))⟩,⟨(some 9),(some (7,true)),(.call 101 [.t 8])⟩,pk 10 (.t 7) (.t 9) (kb false),mo 11 10,⟨(some 12),(some (11,true)),(.faddr 0 (.t 3))⟩,⟨(some 13),(some (11,true)),(.load none (.t 12))⟩,⟨(some 14),(some (11,true)),(.faddr 0 (.t 2))⟩,⟨(some 15),(some (11,true)),(.load none (.t 14))⟩,⟨(some 16),(some (11,true)),(.len false (.t 15))⟩,⟨(some 17),(some (11,true)),(.bin .num .eql (.t 13) (.t 16))⟩,pk 18 (.t 11) (.t 17) (kb false),mo 4 18]) ⟨[(4,0)],[],0⟩) (.keep ⟨[(4,0)],[],0⟩ .ret)))),[.t 4]⟩
abbrev g75_S:=Sys.on [(100,g74_r),(101,g59_r)] []
def impl_superFits (a_d:K0) (a_s:Int × Int × Int × Int):Option (Bool):=(impl_ValidDisk a_d).bind fun r1=>if r1 = true then (impl_ValidSuper a_s).bind fun r2=>if r2 = true then some ((decide (a_s.1 = (a_d.1.length:Int)))) else some false else some false
@[simp] def g75_O:Bool → TV × List Blk:=fun r=>((.bool r),[])
def g75_E (a:K0 × (Int × Int × Int × Int)):List TV:=[(.agg [(.vs (rows a.1.1)),(.vs (rows a.1.2.1)),(.int .i64 a.1.2.2.1),(.bool a.1.2.2.2)]),(.agg [(.int .i64 a.2.1),(.int .i64 a.2.2.1),(.int .i64 a.2.2.2.1),(.int .i64 a.2.2.2.2)])]
theorem g75_run (a_d:K0) (a_s:Int × Int × Int × Int) :callFn (X g75_S) g75_tf (g75_E (a_d,a_s)) [] = (impl_superFits a_d a_s).map g75_O:=by
  rw [callFn_eq]
  simp (maxSteps:=2000000) (maxDischargeDepth:=8) -implicitDefEqProofs [g75_tf,impl_superFits,g75_E] <;> (try simp only [map_to_bind,g75_O])
def g75_r:Rule:=RlO g75_E (fun a=>impl_superFits a.1 a.2) g75_O
theorem g75_ok:RuleOk Tryz.prog 64 g75_r:=ok_rlo (S:=g75_S) (tf:=g75_tf) (SysOk.on ⟨g74_ok,g59_ok,trivial⟩ trivial) (trE_ok (ks:=[]) Tryz.func64 (by kernel_rfl)) fun a=>g75_run a.1 a.2
@[simp] theorem g75_app (y0 y1 y2 y3 y4 y5 y6 y7):g75_r [(.agg [(.vs (rows y0)),(.vs (rows y1)),(.int .i64 y2),(.bool y3)]),(.agg [(.int .i64 y4),(.int .i64 y5),(.int .i64 y6),(.int .i64 y7)])] = (impl_superFits ((y0,y1,y2,y3)) ((y4,y5,y6,y7))).map g75_O :=
  RlO_app (enc:=g75_E) (by intro a b h; simp [g75_E,Prod.ext_iff] at h ⊢; simp [h]) ((y0,y1,y2,y3),(y4,y5,y6,y7))
/-! impl.ValidPages -/
def g60l1_cb:TC:=(.seq (.ops [bn 8 .lss (.t 7) (.t 6)]) (.trim [0,5,6,7,8] (.seq (.cond (.t 8) .skip (.keep ⟨[(0,0)],[],0⟩ (.exit 0))) (.trim [0,5,6,7] (.seq (.block 1 (.seq (.ops [mo 9 7,ia 10 2 5 7,ln 11 2 10,oo 4 (.alloc [(.int .i64 0),(.str [])]),mo 3 9,⟨none,none,(.store 2 (.t 4) (.t 11))⟩]) (.trim [0,3,4,5,6,7] (.seq (.draw [([],fa 12 0 4),([0],ld 13 12),([0,1],ca 14 65 [.t 13,ki 0,ki 255]),([0,1,2],nt 15 14),([0,1,2,3],mo 16 15),([0,1,2,3,4],⟨(some 17),(some (16,false)),(.mv (.t 3))⟩),([0,1,2,3,4,5],⟨(some 18),(some (16,false)),(.bin .num .gtr (.t 17) (ki 0))⟩),([0,1,2,3,4,5,6],⟨(some 19),(some (16,false)),(.mv (.t 18))⟩),([0,1,2,3,4,5,6,7],⟨(some 20),(some (19,true)),(.faddr 0 (.t 4))⟩),([0,1,2,3,4,5,6,7,8],⟨(some 21),(some (19,true)),(.load none (.t 20))⟩),([0,1,2,3,4,5,6,7],⟨(some 22),(some (19,true)),(.mv (.t 0))⟩),([0,1,2,3,4,5,6,7],⟨(some 23),(some (19,true)),(.mv (.t 3))⟩),([0,1,2,3,4,5,6,7,11],⟨(some 24),(some (19,true)),(.bin .num .sub (.t 23) (ki 1))⟩),([0,1,2,3,4,5,6,7,10,11,12],⟨(some 25),(some (19,true)),(.iaddr 2 (.t 22) (.t 24))⟩),([0,1,2,3,4,5,6,7,10,11,12,13],⟨(some 26),(some (19,true)),(.faddr 0 (.t 25))⟩),([0,1,2,3,4,5,6,7,10,11,12,13,14],⟨(some 27),(some (19,true)),(.load none (.t 26))⟩)] [⟨(some 28),(some (19,true)),(.bin .num .leq (.t 21) (.t 27))⟩,⟨(some 29),(some (16,false)),(.pick (.t 19) (.t 28) (kb false))⟩,pk 30 (.t 16) (kb true) (.t 29),mo 31 30,⟨(some 32),(some (31,false)),(.faddr 1 (.t 4))⟩,⟨(some 33),(some (31,false)),(.load none (.t 32))⟩,⟨(some 34),(some (31,false)),(.call 102 [.t 33])⟩,⟨(some 35),(some (31,false)),(.un .not (.t 34))⟩,pk 36 (.t 31) (kb true) (.t 35)]) (.trim [0,5,6,7,36] (.cond (.t 36) (.seq (.ops [oo 2 (.mv (kb false))]) (.keep ⟨[(2,0)],[],0⟩ .ret)) (.keep ⟨[(0,0),(5,0),(6,0),(7,0)],[],0⟩ .skip))))))) (.trim [0,5,6,7] (.after (.ops [bn 37 .add (.t 7) (ki 1),mo 7 37]) ⟨[(0,0),(5,0),(6,0),(7,0)],[],0⟩)))))))
def g60l1_c:TC:=.loop [0,5,6,7] g60l1_cb
def g60_tf:TFn:=⟨(.seq (.ops [oo 2 (.mv (kb false))]) (.trim [0] (.seq (.seq (.ops [mo 5 0,le 6 5,oo 7 (.mv (ki 0))]) (.trim [0,5,6,7] (.block 0 (.keep ⟨[(0,0),(5,0),(6,0),(7,0)],[],0⟩ g60l1_c)))) (.trim [0] (.seq (.ops [mo 38 0,le 39 38,bn 40 .leq (.t 39) (ki 256),mo 2 40]) (.keep ⟨[(2,0)],[],0⟩ .ret)))))),[.t 2]⟩
abbrev g60_S:=Sys.on [(65,g132_r),(102,g114_r)] []
@[reducible,simp] def g60l1_F:(((List (Int × Str))) ⊕ (Bool)) → Out:=(Sum.elim (fun t=>(.ext 0,[(0,(.vs (rows t)))],[])) (fun t=>(.ret,[(2,(.bool t))],[])))
def impl_ValidPages_l1_b (v1:List (Int × Str)) (v2:List (Int × Str)) (v3:Int) (v4:Int):Option ((Int) ⊕ (((List (Int × Str))) ⊕ (Bool))):=if v4 < v3 then if 0 ≤ v4 then (v2[(v4).toNat]?).bind fun x5=>(impl_within x5.1 0 255).bind fun r6=>if ¬(r6 = true) then some (.inr (.inr false)) else if v4 > 0 then if 0 ≤ (IntKind.i64.wrap (v4 - 1)) then (v1[((IntKind.i64.wrap (v4 - 1))).toNat]?).bind fun x7=>if x5.1 ≤ x7.1 then some (.inr (.inr false)) else (impl_isBlock x5.2).bind fun r8=>if ¬(r8 = true) then some (.inr (.inr false)) else some (.inl ((IntKind.i64.wrap (v4 + 1)))) else none else (impl_isBlock x5.2).bind fun r9=>if ¬(r9 = true) then some (.inr (.inr false)) else some (.inl ((IntKind.i64.wrap (v4 + 1)))) else none else some (.inr (.inl v1))
theorem g60l1_b_eq  (v1:List (Int × Str)) (v2:List (Int × Str)) (v3:Int) (v4:Int):X g60_S g60l1_cb (keepEnv [0,5,6,7] [(0,(.vs (rows v1))),(5,(.vs (rows v2))),(6,(.int .i64 v3)),(7,(.int .i64 v4))]) [] = (impl_ValidPages_l1_b v1 v2 v3 v4).map (Sum.elim (fun s=>(TX.nrm,[(0,(.vs (rows v1))),(5,(.vs (rows v2))),(6,(.int .i64 v3)),(7,(.int .i64 s))],[])) g60l1_F):=by
  simp (maxSteps:=2000000) (maxDischargeDepth:=8) -implicitDefEqProofs [g60l1_cb,impl_ValidPages_l1_b] <;> (try simp only [map_to_bind,g60l1_F])
def impl_ValidPages_l1 (v1:List (Int × Str)) (v2:List (Int × Str)) (v3:Int) (s:Int):Option (((List (Int × Str))) ⊕ (Bool)):=loopO (fun s=>impl_ValidPages_l1_b v1 v2 v3 s) s
@[simp] theorem g60l1_eq (y0 y1 y2 y3):X g60_S g60l1_c [(0,(.vs (rows y0))),(5,(.vs (rows y1))),(6,(.int .i64 y2)),(7,(.int .i64 y3))] [] = (impl_ValidPages_l1 y0 y1 y2 y3).map g60l1_F:=by
  exact loop_X _ _ _ _ (by intro r; first | (simp; done) | (rcases r with r | r <;> simp; done) | (rcases r with r | r | r <;> simp; done) | (rcases r with r | r | r | r <;> simp)) (fun s=>g60l1_b_eq  y0 y1 y2 s) y3
def impl_ValidPages (a_list:List (Int × Str)):Option (Bool):=(impl_ValidPages_l1 a_list a_list ((a_list.length:Int)) 0).bind fun r10=>Sum.elim (fun u11=>some ((decide ((u11.length:Int) ≤ 256)))) (fun u12=>some u12) r10
@[simp] def g60_O:Bool → TV × List Blk:=fun r=>((.bool r),[])
def g60_E (a:(List (Int × Str))):List TV:=[(.vs (rows a))]
theorem g60_run (a_list:List (Int × Str)) :callFn (X g60_S) g60_tf (g60_E a_list) [] = (impl_ValidPages a_list).map g60_O:=by
  rw [callFn_eq]
  simp (maxSteps:=2000000) (maxDischargeDepth:=8) -implicitDefEqProofs [g60_tf,impl_ValidPages,g60_E] <;> (try simp only [map_to_bind,g60_O])
def g60_r:Rule:=RlO g60_E (fun a=>impl_ValidPages a) g60_O
theorem g60_ok:RuleOk Tryz.prog 66 g60_r:=ok_rlo (S:=g60_S) (tf:=g60_tf) (SysOk.on ⟨g132_ok,g114_ok,trivial⟩ trivial) (trE_ok (ks:=[[0,5,6,7],[16]]) Tryz.func66 (by kernel_rfl)) fun a=>g60_run a
@[simp] theorem g60_app (y0):g60_r [(.vs (rows y0))] = (impl_ValidPages y0).map g60_O :=
  RlO_app (enc:=g60_E) (by intro a b h; simp [g60_E,Prod.ext_iff] at h ⊢; simp [h]) y0
/-! impl.AreaBlock -/
def g76_tf:TFn:=⟨(.seq (.ops [bx 1 0,oo 2 (.mv (ki 0))]) (.trim [1] (.seq (.seq (.ops [ln 3 4 1,ca 4 101 [.t 3],nt 5 4]) (.trim [1,5] (.cond (.t 5) (.seq (.ops [oo 2 (.mv (ki 0))]) (.keep ⟨[(2,0)],[],0⟩ .ret)) .skip))) (.trim [1] (.seq (.ops [fa 6 1 1,ld 7 6,bn 8 .add (ki 2) (.t 7),mo 2 8]) (.keep ⟨[(2,0)],[],0⟩ .ret)))))),[.t 2]⟩
abbrev g76_S:=Sys.on [(101,g59_r)] []
def impl_AreaBlock (a_s:Int × Int × Int × Int):Option (Int):=(impl_ValidSuper a_s).bind fun r1=>if ¬(r1 = true) then some 0 else some ((IntKind.i64.wrap (2 + a_s.2.1)))
@[simp] def g76_O:Int → TV × List Blk:=fun r=>((.int .i64 r),[])
def g76_E (a:(Int × Int × Int × Int)):List TV:=[(.agg [(.int .i64 a.1),(.int .i64 a.2.1),(.int .i64 a.2.2.1),(.int .i64 a.2.2.2)])]
theorem g76_run (a_s:Int × Int × Int × Int) :callFn (X g76_S) g76_tf (g76_E a_s) [] = (impl_AreaBlock a_s).map g76_O:=by
  rw [callFn_eq]
  simp (maxSteps:=2000000) (maxDischargeDepth:=8) -implicitDefEqProofs [g76_tf,impl_AreaBlock,g76_E] <;> (try simp only [map_to_bind,g76_O])
def g76_r:Rule:=RlO g76_E (fun a=>impl_AreaBlock a) g76_O
theorem g76_ok:RuleOk Tryz.prog 105 g76_r:=ok_rlo (S:=g76_S) (tf:=g76_tf) (SysOk.on ⟨g59_ok,trivial⟩ trivial) (trE_ok (ks:=[]) Tryz.func105 (by kernel_rfl)) fun a=>g76_run a
@[simp] theorem g76_app (y0 y1 y2 y3):g76_r [(.agg [(.int .i64 y0),(.int .i64 y1),(.int .i64 y2),(.int .i64 y3)])] = (impl_AreaBlock ((y0,y1,y2,y3))).map g76_O :=
  RlO_app (enc:=g76_E) (by intro a b h; simp [g76_E,Prod.ext_iff] at h ⊢; simp [h]) ((y0,y1,y2,y3))
/-! (impl.Super).inArea.1 -/
def g24_tf:TFn:=⟨(.seq (.ops [bx 2 0,oo 3 (.mv (kb false))]) (.trim [1,2] (.seq (.draw [([],fa 4 0 2),([0],ld 5 4),([],ln 6 4 1),([2],ca 7 105 [.t 6]),([],fa 8 0 1),([4],ld 9 8),([4,5],bn 10 .sub (.t 9) (ki 1))] [ca 11 65 [.t 5,.t 7,.t 10],nt 12 11,mo 3 12]) (.keep ⟨[(3,0)],[],0⟩ .ret)))),[.t 3]⟩
abbrev g24_S:=Sys.on [(105,g76_r),(65,g132_r)] []
def impl_Super_inArea_c1 (a_p:Int × Str) (a_p':Int) (a_p'':Int) (a_p''':Int) (a_p'''':Int):Option (Bool):=(impl_AreaBlock ((a_p',a_p'',a_p''',a_p''''))).bind fun r1=>(impl_within a_p.1 r1 ((IntKind.i64.wrap (a_p' - 1)))).bind fun r2=>some ((!r2))
@[simp] def g24_O:Bool → TV × List Blk:=fun r=>((.bool r),[])
def g24_E (a:(Int × Str) × Int × Int × Int × Int):List TV:=[(.agg [(.int .i64 a.1.1),(.str a.1.2)]),(.vp [(.int .i64 a.2.1),(.int .i64 a.2.2.1),(.int .i64 a.2.2.2.1),(.int .i64 a.2.2.2.2)])]
theorem g24_run (a_p:Int × Str) (a_p':Int) (a_p'':Int) (a_p''':Int) (a_p'''':Int) :callFn (X g24_S) g24_tf (g24_E (a_p,a_p',a_p'',a_p''',a_p'''')) [] = (impl_Super_inArea_c1 a_p a_p' a_p'' a_p''' a_p'''').map g24_O:=by
  rw [callFn_eq]
  simp (maxSteps:=2000000) (maxDischargeDepth:=8) -implicitDefEqProofs [g24_tf,impl_Super_inArea_c1,g24_E] <;> (try simp only [map_to_bind,g24_O])
def g24_r:Rule:=RlO g24_E (fun a=>impl_Super_inArea_c1 a.1 a.2.1 a.2.2.1 a.2.2.2.1 a.2.2.2.2) g24_O
theorem g24_ok:RuleOk Tryz.prog 104 g24_r:=ok_rlo (S:=g24_S) (tf:=g24_tf) (SysOk.on ⟨g76_ok,g132_ok,trivial⟩ trivial) (trE_ok (ks:=[[7]]) Tryz.func104 (by kernel_rfl)) fun a=>g24_run a.1 a.2.1 a.2.2.1 a.2.2.2.1 a.2.2.2.2
@[simp] theorem g24_app (y0 y1 y2 y3 y4 y5):g24_r [(.agg [(.int .i64 y0),(.str y1)]),(.vp [(.int .i64 y2),(.int .i64 y3),(.int .i64 y4),(.int .i64 y5)])] = (impl_Super_inArea_c1 ((y0,y1)) y2 y3 y4 y5).map g24_O :=
  RlO_app (enc:=g24_E) (by intro a b h; simp [g24_E,Prod.ext_iff] at h ⊢; simp [h]) ((y0,y1),y2,y3,y4,y5)
/-! slices.IndexFunc[[]impl.Page,impl.Page] -/
def g4l1_cb:TC:=(.seq (.ops [bn 9 .lss (.t 8) (.t 7)]) (.trim [0,1,7,8,9] (.seq (.cond (.t 9) .skip (.keep ⟨[],[],0⟩ (.exit 0))) (.trim [0,1,7,8] (.seq (.block 1 (.seq (.ops [mo 10 8,mo 5 10]) (.trim [0,1,5,7,8] (.seq (.ops [mo 11 1,mo 12 0,mo 13 5,ia 14 2 12 13,ln 15 2 14,oo 16 (.callv (.t 11) [.t 15])]) (.trim [0,1,5,7,8,16] (.cond (.t 16) (.seq (.ops [mo 17 5,mo 4 17]) (.keep ⟨[(4,0)],[],0⟩ .ret)) .skip)))))) (.trim [0,1,7,8] (.after (.ops [bn 18 .add (.t 8) (ki 1),mo 8 18]) ⟨[(0,0),(1,0),(7,0),(8,0)],[],0⟩)))))))
def g4l1_c:TC:=.loop [0,1,7,8] g4l1_cb
def g4_tf:TFn:=⟨(.seq (.ops [oo 4 (.mv (ki 0))]) (.trim [0,1] (.seq (.seq (.ops [mo 6 0,le 7 6,oo 8 (.mv (ki 0))]) (.trim [0,1,7,8] (.block 0 (.keep ⟨[(0,0),(1,0),(7,0),(8,0)],[],0⟩ g4l1_c)))) (.trim [] (.seq (.ops [oo 4 (.mv (ki (-1)))]) (.keep ⟨[(4,0)],[],0⟩ .ret)))))),[.t 4]⟩
abbrev g4_S:=Sys.on [(104,g24_r)] []
@[reducible,simp] def g4l1_F:((Unit) ⊕ (Int)) → Out:=(Sum.elim (fun t=>(.ext 0,[],[])) (fun t=>(.ret,[(4,(.int .i64 t))],[])))
def slices_IndexFunc_impl_Page_impl_Page__Super_inArea_c1_l1_b (v1:List (Int × Str)) (v2:Int) (v3:Int) (v4:Int) (v5:Int) (v6:Int) (v7:Int):Option ((Int) ⊕ ((Unit) ⊕ (Int))):=if v7 < v6 then if 0 ≤ v7 then (v1[(v7).toNat]?).bind fun x8=>(impl_Super_inArea_c1 x8 v2 v3 v4 v5).bind fun r9=>if r9 = true then some (.inr (.inr v7)) else some (.inl ((IntKind.i64.wrap (v7 + 1)))) else none else some (.inr (.inl ()))
theorem g4l1_b_eq  (v1:List (Int × Str)) (v2:Int) (v3:Int) (v4:Int) (v5:Int) (v6:Int) (v7:Int):X g4_S g4l1_cb (keepEnv [0,1,7,8] [(0,(.vs (rows v1))),(1,(.fn 104 [] [(.vp [(.int .i64 v2),(.int .i64 v3),(.int .i64 v4),(.int .i64 v5)])])),(7,(.int .i64 v6)),(8,(.int .i64 v7))]) [] = (slices_IndexFunc_impl_Page_impl_Page__Super_inArea_c1_l1_b v1 v2 v3 v4 v5 v6 v7).map (Sum.elim (fun s=>(TX.nrm,[(0,(.vs (rows v1))),(1,(.fn 104 [] [(.vp [(.int .i64 v2),(.int .i64 v3),(.int .i64 v4),(.int .i64 v5)])])),(7,(.int .i64 v6)),(8,(.int .i64 s))],[])) g4l1_F):=by
  simp (maxSteps:=2000000) (maxDischargeDepth:=8) -implicitDefEqProofs [g4l1_cb,slices_IndexFunc_impl_Page_impl_Page__Super_inArea_c1_l1_b] <;> (try simp only [map_to_bind,g4l1_F])
def slices_IndexFunc_impl_Page_impl_Page__Super_inArea_c1_l1 (v1:List (Int × Str)) (v2:Int) (v3:Int) (v4:Int) (v5:Int) (v6:Int) (s:Int):Option ((Unit) ⊕ (Int)):=loopO (fun s=>slices_IndexFunc_impl_Page_impl_Page__Super_inArea_c1_l1_b v1 v2 v3 v4 v5 v6 s) s
@[simp] theorem g4l1_eq (y0 y1 y2 y3 y4 y5 y6):X g4_S g4l1_c [(0,(.vs (rows y0))),(1,(.fn 104 [] [(.vp [(.int .i64 y1),(.int .i64 y2),(.int .i64 y3),(.int .i64 y4)])])),(7,(.int .i64 y5)),(8,(.int .i64 y6))] [] = (slices_IndexFunc_impl_Page_impl_Page__Super_inArea_c1_l1 y0 y1 y2 y3 y4 y5 y6).map g4l1_F:=by
  exact loop_X _ _ _ _ (by intro r; first | (simp; done) | (rcases r with r | r <;> simp; done) | (rcases r with r | r | r <;> simp; done) | (rcases r with r | r | r | r <;> simp)) (fun s=>g4l1_b_eq  y0 y1 y2 y3 y4 y5 s) y6
def slices_IndexFunc_impl_Page_impl_Page__Super_inArea_c1 (a_s:List (Int × Str)) (a_f:Int) (a_f':Int) (a_f'':Int) (a_f''':Int):Option (Int):=(slices_IndexFunc_impl_Page_impl_Page__Super_inArea_c1_l1 a_s a_f a_f' a_f'' a_f''' ((a_s.length:Int)) 0).bind fun r10=>Sum.elim (fun u11=>some ((-1))) (fun u12=>some u12) r10
@[simp] def g4_O:Int → TV × List Blk:=fun r=>((.int .i64 r),[])
def g4_E (a:(List (Int × Str)) × Int × Int × Int × Int):List TV:=[(.vs (rows a.1)),(.fn 104 [] [(.vp [(.int .i64 a.2.1),(.int .i64 a.2.2.1),(.int .i64 a.2.2.2.1),(.int .i64 a.2.2.2.2)])])]
theorem g4_run (a_s:List (Int × Str)) (a_f:Int) (a_f':Int) (a_f'':Int) (a_f''':Int) :callFn (X g4_S) g4_tf (g4_E (a_s,a_f,a_f',a_f'',a_f''')) [] = (slices_IndexFunc_impl_Page_impl_Page__Super_inArea_c1 a_s a_f a_f' a_f'' a_f''').map g4_O:=by
  rw [callFn_eq]
  simp (maxSteps:=2000000) (maxDischargeDepth:=8) -implicitDefEqProofs [g4_tf,slices_IndexFunc_impl_Page_impl_Page__Super_inArea_c1,g4_E] <;> (try simp only [map_to_bind,g4_O])
def g4_r:Rule:=RlO g4_E (fun a=>slices_IndexFunc_impl_Page_impl_Page__Super_inArea_c1 a.1 a.2.1 a.2.2.1 a.2.2.2.1 a.2.2.2.2) g4_O
theorem g4_ok:RuleOk Tryz.prog 134 g4_r:=ok_rlo (S:=g4_S) (tf:=g4_tf) (SysOk.on ⟨g24_ok,trivial⟩ trivial) (trE_ok (ks:=[[0,1,7,8]]) Tryz.func134 (by kernel_rfl)) fun a=>g4_run a.1 a.2.1 a.2.2.1 a.2.2.2.1 a.2.2.2.2
@[simp] theorem g4_app (y0 y1 y2 y3 y4):g4_r [(.vs (rows y0)),(.fn 104 [] [(.vp [(.int .i64 y1),(.int .i64 y2),(.int .i64 y3),(.int .i64 y4)])])] = (slices_IndexFunc_impl_Page_impl_Page__Super_inArea_c1 y0 y1 y2 y3 y4).map g4_O :=
  RlO_app (enc:=g4_E) (by intro a b h; simp [g4_E,Prod.ext_iff] at h ⊢; simp [h]) (y0,y1,y2,y3,y4)
/-! slices.ContainsFunc[[]impl.Page,impl.Page] -/
def g3_tf:TFn:=⟨(.seq (.ops [oo 4 (.mv (kb false))]) (.trim [0,1] (.seq (.ops [mo 5 0,mo 6 1,ca 7 134 [.t 5,.t 6],bn 8 .geq (.t 7) (ki 0),mo 4 8]) (.keep ⟨[(4,0)],[],0⟩ .ret)))),[.t 4]⟩
abbrev g3_S:=Sys.on [(134,g4_r)] []
def slices_ContainsFunc_impl_Page_impl_Page__Super_inArea_c1 (a_s:List (Int × Str)) (a_f:Int) (a_f':Int) (a_f'':Int) (a_f''':Int):Option (Bool):=(slices_IndexFunc_impl_Page_impl_Page__Super_inArea_c1 a_s a_f a_f' a_f'' a_f''').bind fun r1=>some ((decide (r1 ≥ 0)))
@[simp] def g3_O:Bool → TV × List Blk:=fun r=>((.bool r),[])
def g3_E (a:(List (Int × Str)) × Int × Int × Int × Int):List TV:=[(.vs (rows a.1)),(.fn 104 [] [(.vp [(.int .i64 a.2.1),(.int .i64 a.2.2.1),(.int .i64 a.2.2.2.1),(.int .i64 a.2.2.2.2)])])]
theorem g3_run (a_s:List (Int × Str)) (a_f:Int) (a_f':Int) (a_f'':Int) (a_f''':Int) :callFn (X g3_S) g3_tf (g3_E (a_s,a_f,a_f',a_f'',a_f''')) [] = (slices_ContainsFunc_impl_Page_impl_Page__Super_inArea_c1 a_s a_f a_f' a_f'' a_f''').map g3_O:=by
  rw [callFn_eq]
  simp (maxSteps:=2000000) (maxDischargeDepth:=8) -implicitDefEqProofs [g3_tf,slices_ContainsFunc_impl_Page_impl_Page__Super_inArea_c1,g3_E] <;> (try simp only [map_to_bind,g3_O])
def g3_r:Rule:=RlO g3_E (fun a=>slices_ContainsFunc_impl_Page_impl_Page__Super_inArea_c1 a.1 a.2.1 a.2.2.1 a.2.2.2.1 a.2.2.2.2) g3_O
theorem g3_ok:RuleOk Tryz.prog 103 g3_r:=ok_rlo (S:=g3_S) (tf:=g3_tf) (SysOk.on ⟨g4_ok,trivial⟩ trivial) (trE_ok (ks:=[]) Tryz.func103 (by kernel_rfl)) fun a=>g3_run a.1 a.2.1 a.2.2.1 a.2.2.2.1 a.2.2.2.2
@[simp] theorem g3_app (y0 y1 y2 y3 y4):g3_r [(.vs (rows y0)),(.fn 104 [] [(.vp [(.int .i64 y1),(.int .i64 y2),(.int .i64 y3),(.int .i64 y4)])])] = (slices_ContainsFunc_impl_Page_impl_Page__Super_inArea_c1 y0 y1 y2 y3 y4).map g3_O :=
  RlO_app (enc:=g3_E) (by intro a b h; simp [g3_E,Prod.ext_iff] at h ⊢; simp [h]) (y0,y1,y2,y3,y4)
/-! (impl.Super).inArea -/
def g42_tf:TFn:=⟨(.seq (.ops [bx 2 0,oo 4 (.mv (kb false))]) (.trim [1,2] (.seq (.ops [mo 5 1,oo 6 (.mkfn 104 [] [.t 2]),ca 7 103 [.t 5,.t 6],nt 8 7,mo 4 8]) (.keep ⟨[(4,0)],[],0⟩ .ret)))),[.t 4]⟩
abbrev g42_S:=Sys.on [(103,g3_r)] []
def impl_Super_inArea (a_s:Int × Int × Int × Int) (a_list:List (Int × Str)):Option (Bool):=(slices_ContainsFunc_impl_Page_impl_Page__Super_inArea_c1 a_list a_s.1 a_s.2.1 a_s.2.2.1 a_s.2.2.2).bind fun r1=>some ((!r1))
@[simp] def g42_O:Bool → TV × List Blk:=fun r=>((.bool r),[])
def g42_E (a:(Int × Int × Int × Int) × (List (Int × Str))):List TV:=[(.agg [(.int .i64 a.1.1),(.int .i64 a.1.2.1),(.int .i64 a.1.2.2.1),(.int .i64 a.1.2.2.2)]),(.vs (rows a.2))]
theorem g42_run (a_s:Int × Int × Int × Int) (a_list:List (Int × Str)) :callFn (X g42_S) g42_tf (g42_E (a_s,a_list)) [] = (impl_Super_inArea a_s a_list).map g42_O:=by
  rw [callFn_eq]
  simp (maxSteps:=2000000) (maxDischargeDepth:=8) -implicitDefEqProofs [g42_tf,impl_Super_inArea,g42_E] <;> (try simp only [map_to_bind,g42_O])
def g42_r:Rule:=RlO g42_E (fun a=>impl_Super_inArea a.1 a.2) g42_O
theorem g42_ok:RuleOk Tryz.prog 67 g42_r:=ok_rlo (S:=g42_S) (tf:=g42_tf) (SysOk.on ⟨g3_ok,trivial⟩ trivial) (trE_ok (ks:=[]) Tryz.func67 (by kernel_rfl)) fun a=>g42_run a.1 a.2
@[simp] theorem g42_app (y0 y1 y2 y3 y4):g42_r [(.agg [(.int .i64 y0),(.int .i64 y1),(.int .i64 y2),(.int .i64 y3)]),(.vs (rows y4))] = (impl_Super_inArea ((y0,y1,y2,y3)) y4).map g42_O :=
  RlO_app (enc:=g42_E) (by intro a b h; simp [g42_E,Prod.ext_iff] at h ⊢; simp [h]) ((y0,y1,y2,y3),y4)
/-! impl.tableBlocks -/
def g50_tf:TFn:=⟨(.seq (.ops [oo 2 (.mv (ki 0))]) (.trim [0] (.seq (.ops [mo 3 0,bn 4 .mul (ki 2) (.t 3),bn 5 .add (.t 4) (ki 64),bn 6 .sub (.t 5) (ki 1),bn 7 .quo (.t 6) (ki 64),mo 2 7]) (.keep ⟨[(2,0)],[],0⟩ .ret)))),[.t 2]⟩
abbrev g50_S:=Sys.on [] []
def impl_tableBlocks (a_pages:Int):Option (Int):=some ((IntKind.i64.wrap (Int.tdiv ((IntKind.i64.wrap ((IntKind.i64.wrap ((IntKind.i64.wrap (2 * a_pages)) + 64)) - 1))) 64)))
@[simp] def g50_O:Int → TV × List Blk:=fun r=>((.int .i64 r),[])
def g50_E (a:Int):List TV:=[(.int .i64 a)]
theorem g50_run (a_pages:Int) :callFn (X g50_S) g50_tf (g50_E a_pages) [] = (impl_tableBlocks a_pages).map g50_O:=by
  rw [callFn_eq]
  simp (maxSteps:=2000000) (maxDischargeDepth:=8) -implicitDefEqProofs [g50_tf,impl_tableBlocks,g50_E] <;> (try simp only [map_to_bind,g50_O])
def g50_r:Rule:=RlO g50_E (fun a=>impl_tableBlocks a) g50_O
theorem g50_ok:RuleOk Tryz.prog 135 g50_r:=ok_rlo (S:=g50_S) (tf:=g50_tf) (SysOk.on trivial trivial) (trE_ok (ks:=[]) Tryz.func135 (by kernel_rfl)) fun a=>g50_run a
@[simp] theorem g50_app (y0):g50_r [(.int .i64 y0)] = (impl_tableBlocks y0).map g50_O :=
  RlO_app (enc:=g50_E) (by intro a b h; simp [g50_E,Prod.ext_iff] at h ⊢; simp [h]) y0
/-! impl.RecordBlocks -/
def g43_tf:TFn:=⟨(.seq (.ops [oo 2 (.mv (ki 0))]) (.trim [0] (.seq (.seq (.ops [mo 3 0,ca 4 65 [.t 3,ki 1,ki 60],nt 5 4]) (.trim [0,5] (.cond (.t 5) (.seq (.ops [oo 2 (.mv (ki 0))]) (.keep ⟨[(2,0)],[],0⟩ .ret)) .skip))) (.trim [0] (.seq (.ops [mo 6 0,ca 7 135 [.t 6],bn 8 .add (ki 1) (.t 7),mo 9 0,bn 10 .add (.t 8) (.t 9),mo 2 10]) (.keep ⟨[(2,0)],[],0⟩ .ret)))))),[.t 2]⟩
abbrev g43_S:=Sys.on [(65,g132_r),(135,g50_r)] []
def impl_RecordBlocks (a_pages:Int):Option (Int):=(impl_within a_pages 1 60).bind fun r1=>if ¬(r1 = true) then some 0 else (impl_tableBlocks a_pages).bind fun r2=>some ((IntKind.i64.wrap ((IntKind.i64.wrap (1 + r2)) + a_pages)))
@[simp] def g43_O:Int → TV × List Blk:=fun r=>((.int .i64 r),[])
def g43_E (a:Int):List TV:=[(.int .i64 a)]
theorem g43_run (a_pages:Int) :callFn (X g43_S) g43_tf (g43_E a_pages) [] = (impl_RecordBlocks a_pages).map g43_O:=by
  rw [callFn_eq]
  simp (maxSteps:=2000000) (maxDischargeDepth:=8) -implicitDefEqProofs [g43_tf,impl_RecordBlocks,g43_E] <;> (try simp only [map_to_bind,g43_O])
def g43_r:Rule:=RlO g43_E (fun a=>impl_RecordBlocks a) g43_O
theorem g43_ok:RuleOk Tryz.prog 106 g43_r:=ok_rlo (S:=g43_S) (tf:=g43_tf) (SysOk.on ⟨g132_ok,g50_ok,trivial⟩ trivial) (trE_ok (ks:=[]) Tryz.func106 (by kernel_rfl)) fun a=>g43_run a
@[simp] theorem g43_app (y0):g43_r [(.int .i64 y0)] = (impl_RecordBlocks y0).map g43_O :=
  RlO_app (enc:=g43_E) (by intro a b h; simp [g43_E,Prod.ext_iff] at h ⊢; simp [h]) y0
/-! (impl.Super).fits -/
def g61_tf:TFn:=⟨(.seq (.ops [bx 2 0,oo 4 (.mv (kb false))]) (.trim [1,2] (.seq (.after (.draw [([],mo 5 1),([0],bn 6 .leq (.t 5) (ki 60)),([0,1],mo 7 6),([0,1,2],⟨(some 8),(some (7,true)),(.mv (.t 1))⟩),([0,1,2,3],⟨(some 9),(some (7,true)),(.call 106 [.t 8])⟩),([0,1,2],⟨(some 10),(some (7,true)),(.faddr 1 (.t 2))⟩),([0,1,2,5],⟨(some 11),(some (7,true)),(.load none (.t 10))⟩)] [⟨(some 12),(some (7,true)),(.bin .num .leq (.t 9) (.t 11))⟩,pk 13 (.t 7) (.t 12) (kb false),mo 4 13]) ⟨[(4,0)],[],0⟩) (.keep ⟨[(4,0)],[],0⟩ .ret)))),[.t 4]⟩
abbrev g61_S:=Sys.on [(106,g43_r)] []
def impl_Super_fits (a_s:Int × Int × Int × Int) (a_pages:Int):Option (Bool):=if a_pages ≤ 60 then (impl_RecordBlocks a_pages).bind fun r1=>some ((decide (r1 ≤ a_s.2.1))) else some false
@[simp] def g61_O:Bool → TV × List Blk:=fun r=>((.bool r),[])
def g61_E (a:(Int × Int × Int × Int) × Int):List TV:=[(.agg [(.int .i64 a.1.1),(.int .i64 a.1.2.1),(.int .i64 a.1.2.2.1),(.int .i64 a.1.2.2.2)]),(.int .i64 a.2)]
theorem g61_run (a_s:Int × Int × Int × Int) (a_pages:Int) :callFn (X g61_S) g61_tf (g61_E (a_s,a_pages)) [] = (impl_Super_fits a_s a_pages).map g61_O:=by
  rw [callFn_eq]
  simp (maxSteps:=2000000) (maxDischargeDepth:=8) -implicitDefEqProofs [g61_tf,impl_Super_fits,g61_E] <;> (try simp only [map_to_bind,g61_O])
def g61_r:Rule:=RlO g61_E (fun a=>impl_Super_fits a.1 a.2) g61_O
theorem g61_ok:RuleOk Tryz.prog 68 g61_r:=ok_rlo (S:=g61_S) (tf:=g61_tf) (SysOk.on ⟨g43_ok,trivial⟩ trivial) (trE_ok (ks:=[[7]]) Tryz.func68 (by kernel_rfl)) fun a=>g61_run a.1 a.2
@[simp] theorem g61_app (y0 y1 y2 y3 y4):g61_r [(.agg [(.int .i64 y0),(.int .i64 y1),(.int .i64 y2),(.int .i64 y3)]),(.int .i64 y4)] = (impl_Super_fits ((y0,y1,y2,y3)) y4).map g61_O :=
  RlO_app (enc:=g61_E) (by intro a b h; simp [g61_E,Prod.ext_iff] at h ⊢; simp [h]) ((y0,y1,y2,y3),y4)
/-! impl.ValidPager -/
def g62p1_c:TC:=(.seq (.after (.ops [fa 40 10 1,ld 41 40,ca 42 66 [.t 41],mo 43 42,⟨(some 44),(some (43,true)),(.faddr 11 (.t 1))⟩,⟨(some 45),(some (43,true)),(.load none (.t 44))⟩,⟨(some 46),(some (43,true)),(.call 66 [.t 45])⟩,pk 47 (.t 43) (.t 46) (kb false),mo 48 47,⟨(some 49),(some (48,true)),(.faddr 4 (.t 1))⟩,⟨(some 50),(some (48,true)),(.load (some 4) (.t 49))⟩,⟨(some 51),(some (48,true)),(.faddr 10 (.t 1))⟩,⟨(some 52),(some (48,true)),(.load none (.t 51))⟩,⟨(some 53),(some (48,true)),(.call 67 [.t 50,.t 52])⟩,pk 54 (.t 48) (.t 53) (kb false),mo 55 54,⟨(some 56),(some (55,true)),(.faddr 4 (.t 1))⟩,⟨(some 57),(some (55,true)),(.load (some 4) (.t 56))⟩,⟨(some 58),(some (55,true)),(.faddr 11 (.t 1))⟩,⟨(some 59),(some (55,true)),(.load none (.t 58))⟩,⟨(some 60),(some (55,true)),(.call 67 [.t 57,.t 59])⟩,pk 61 (.t 55) (.t 60) (kb false),mo 62 61,⟨(some 63),(some (62,true)),(.faddr 4 (.t 1))⟩,⟨(some 64),(some (62,true)),(.load (some 4) (.t 63))⟩,⟨(some 65),(some (62,true)),(.faddr 11 (.t 1))⟩,⟨(some 66),(some (62,true)),(.load none (.t 65))⟩,⟨(some 67),(some (62,true)),(.len false (.t 66))⟩,⟨(some 68),(some (62,true)),(.call 68 [.t 64,.t 67])⟩,pk 69 (.t 62) (.t 68) (kb false),mo 2 69]) ⟨[(2,0)],[],0⟩) (.keep ⟨[(2,0)],[],0⟩ .ret))
def g62_tf:TFn:=⟨(.seq (.ops [bx 1 0,oo 2 (.mv (kb false))]) (.trim [1] (.seq (.seq (.ops [fa 3 0 1,ln 4 4 3,fa 5 4 1,ln 6 4 5,ca 7 64 [.t 4,.t 6],nt 8 7,mo 9 8,⟨(some 10),(some (9,false)),(.faddr 0 (.t 1))⟩,⟨(some 11),(some (9,false)),(.faddr 1 (.t 10))⟩,⟨(some 12),(some (9,false)),(.load none (.t 11))⟩,⟨(some 13),(some (9,false)),(.len false (.t 12))⟩,⟨(some 14),(some (9,false)),(.bin .num .gtr (.t 13) (ki 1))⟩,⟨(some 15),(some (9,false)),(.mv (.t 14))⟩,⟨(some 16),(some (15,true)),(.faddr 0 (.t 1))⟩,⟨(some 17),(some (15,true)),(.faddr 3 (.t 16))⟩,⟨(some 18),(some (15,true)),(.load none (.t 17))⟩,⟨(some 19),(some (15,true)),(.un .not (.t 18))⟩,⟨(some 20),(some (9,false)),(.pick (.t 15) (.t 19) (kb false))⟩,pk 21 (.t 9) (kb true) (.t 20),mo 22 21,⟨(some 23),(some (22,false)),(.faddr 8 (.t 1))⟩,⟨(some 24),(some (22,false)),(.load none (.t 23))⟩,⟨(some 25),(some (22,false)),(.faddr 4 (.t 1))⟩,⟨(some 26),(some (22,false)),(.faddr 2 (.t 25))⟩,⟨(some 27),(some (22,false)),(.load none (.t 26))⟩,⟨(some 28),(some (22,false)),(.call 65 [.t 24,.t 27,ki 1000000000000])⟩,⟨(some 29),(some (22,false)),(.un .not (.t 28))⟩,pk 30 (.t 22) (kb true) (.t 29),mo 31 30,⟨(some 32),(some (31,false)),(.faddr 9 (.t 1))⟩,⟨(some 33),(some (31,false)),(.load none (.t 32))⟩,⟨(some 34),(some (31,false)),(.faddr 4 (.t 1))⟩,⟨(some 35),(some (31,false)),(.faddr 1 (.t 34))⟩,⟨(some 36),(some (31,false)),(.load none (.t 35))⟩,⟨(some 37),(some (31,false)),(.call 65 [.t 33,ki 0,.t 36])⟩,⟨(some 38),(some (31,false)),(.un .not (.t 37))⟩,pk 39 (.t 31) (kb true) (.t 38)]) (.trim [1,39] (.cond (.t 39) (.seq (.ops [oo 2 (.mv (kb false))]) (.keep ⟨[(2,0)],[],0⟩ .ret)) (.keep ⟨[(1,0)],[(0,0)],0⟩ .skip)))) (.trim [1] g62p1_c)))),[.t 2]⟩
abbrev g62_S:=Sys.on [(64,g75_r),(65,g132_r),(66,g60_r),(67,g42_r),(68,g61_r)] []
@[reducible,simp] def g62p1_F:Bool → Out:=(fun t=>(.ret,[(2,(.bool t))],[]))
def impl_ValidPager_p1 (v6:K1):Option (Bool):=(impl_ValidPages v6.2.2.2.2.1).bind fun r7=>if r7 = true then (impl_ValidPages v6.2.2.2.2.2).bind fun r8=>if r8 = true then (impl_Super_inArea v6.2.1 v6.2.2.2.2.1).bind fun r9=>if r9 = true then (impl_Super_inArea v6.2.1 v6.2.2.2.2.2).bind fun r10=>if r10 = true then (impl_Super_fits v6.2.1 ((v6.2.2.2.2.2.length:Int))).bind fun r11=>some r11 else some false else some false else some false else some false
@[simp] theorem g62p1_eq (y0 y1 y2 y3 y4 y5 y6 y7 y8 y9 y10 y11):X g62_S g62p1_c [(1,(.ptr 0 0 0))] [(.live 12 [[(.vs (rows y0)),(.vs (rows y1)),(.int .i64 y2),(.bool y3),(.int .i64 y4),(.int .i64 y5),(.int .i64 y6),(.int .i64 y7),(.int .i64 y8),(.int .i64 y9),(.vs (rows y10)),(.vs (rows y11))]])] = (impl_ValidPager_p1 (((y0,y1,y2,y3),(y4,y5,y6,y7),y8,y9,y10,y11))).map g62p1_F:=by
  simp (maxSteps:=2000000) (maxDischargeDepth:=8) -implicitDefEqProofs [g62p1_c,impl_ValidPager_p1] <;> (try simp only [map_to_bind,g62p1_F])
def impl_ValidPager (a_p:K1):Option (Bool):=(impl_superFits a_p.1 a_p.2.1).bind fun r1=>if ¬(r1 = true) then some false else if (a_p.1.2.1.length:Int) > 1 then if ¬(a_p.1.2.2.2 = true) then some false else (impl_within a_p.2.2.1 a_p.2.1.2.2.1 1000000000000).bind fun r2=>if ¬(r2 = true) then some false else (impl_within a_p.2.2.2.1 0 a_p.2.1.2.1).bind fun r3=>if ¬(r3 = true) then some false else (impl_ValidPager_p1 a_p).bind fun r12=>some r12 else (impl_within a_p.2.2.1 a_p.2.1.2.2.1 1000000000000).bind fun r4=>if ¬(r4 = true) then some false else (impl_within a_p.2.2.2.1 0 a_p.2.1.2.1).bind fun r5=>if ¬(r5 = true) then some false else (impl_ValidPager_p1 a_p).bind fun r13=>some r13
@[simp] def g62_O:Bool → TV × List Blk:=fun r=>((.bool r),[])
def g62_E (a:K1):List TV:=[(.agg [(.vs (rows a.1.1)),(.vs (rows a.1.2.1)),(.int .i64 a.1.2.2.1),(.bool a.1.2.2.2),(.int .i64 a.2.1.1),(.int .i64 a.2.1.2.1),(.int .i64 a.2.1.2.2.1),(.int .i64 a.2.1.2.2.2),(.int .i64 a.2.2.1),(.int .i64 a.2.2.2.1),(.vs (rows a.2.2.2.2.1)),(.vs (rows a.2.2.2.2.2))])]
theorem g62_run (a_p:K1) :callFn (X g62_S) g62_tf (g62_E a_p) [] = (impl_ValidPager a_p).map g62_O:=by
  rw [callFn_eq]
  simp (maxSteps:=2000000) (maxDischargeDepth:=8) -implicitDefEqProofs [g62_tf,impl_ValidPager,g62_E] <;> (try simp only [map_to_bind,g62_O])
def g62_r:Rule:=RlO g62_E (fun a=>impl_ValidPager a) g62_O
theorem g62_ok:RuleOk Tryz.prog 29 g62_r:=ok_rlo (S:=g62_S) (tf:=g62_tf) (SysOk.on ⟨g75_ok,g132_ok,g60_ok,g42_ok,g61_ok,trivial⟩ trivial) (trE_ok (ks:=[]) Tryz.func29 (by kernel_rfl)) fun a=>g62_run a
@[simp] theorem g62_app (y0 y1 y2 y3 y4 y5 y6 y7 y8 y9 y10 y11):g62_r [(.agg [(.vs (rows y0)),(.vs (rows y1)),(.int .i64 y2),(.bool y3),(.int .i64 y4),(.int .i64 y5),(.int .i64 y6),(.int .i64 y7),(.int .i64 y8),(.int .i64 y9),(.vs (rows y10)),(.vs (rows y11))])] = (impl_ValidPager (((y0,y1,y2,y3),(y4,y5,y6,y7),y8,y9,y10,y11))).map g62_O :=
  RlO_app (enc:=g62_E) (by intro a b h; simp [g62_E,Prod.ext_iff] at h ⊢; simp [h]) (((y0,y1,y2,y3),(y4,y5,y6,y7),y8,y9,y10,y11))
/-! impl.messageOk -/
def g77_tf:TFn:=⟨(.seq (.ops [bx 1 0,oo 2 (.mv (kb false))]) (.trim [1] (.seq (.after (.ops [fa 3 0 1,ld 4 3,ca 5 65 [.t 4,ki 1,ki 9],mo 6 5,⟨(some 7),(some (6,true)),(.faddr 1 (.t 1))⟩,⟨(some 8),(some (6,true)),(.load none (.t 7))⟩,⟨(some 9),(some (6,true)),(.call 65 [.t 8,ki 0,ki 255])⟩,pk 10 (.t 6) (.t 9) (kb false),mo 11 10,⟨(some 12),(some (11,true)),(.faddr 2 (.t 1))⟩,⟨(some 13),(some (11,true)),(.load none (.t 12))⟩,⟨(some 14),(some (11,true)),(.len true (.t 13))⟩,⟨(some 15),(some (11,true)),(.bin .num .leq (.t 14) (ki 200))⟩,pk 16 (.t 11) (.t 15) (kb false),mo 2 16]) ⟨[(2,0)],[],0⟩) (.keep ⟨[(2,0)],[],0⟩ .ret)))),[.t 2]⟩
abbrev g77_S:=Sys.on [(65,g132_r)] []
def impl_messageOk (a_m:Int × Int × Str):Option (Bool):=(impl_within a_m.1 1 9).bind fun r1=>if r1 = true then (impl_within a_m.2.1 0 255).bind fun r2=>if r2 = true then some ((decide ((a_m.2.2.length:Int) ≤ 200))) else some false else some false
@[simp] def g77_O:Bool → TV × List Blk:=fun r=>((.bool r),[])
def g77_E (a:(Int × Int × Str)):List TV:=[(.agg [(.int .i64 a.1),(.int .i64 a.2.1),(.str a.2.2)])]
theorem g77_run (a_m:Int × Int × Str) :callFn (X g77_S) g77_tf (g77_E a_m) [] = (impl_messageOk a_m).map g77_O:=by
  rw [callFn_eq]
  simp (maxSteps:=2000000) (maxDischargeDepth:=8) -implicitDefEqProofs [g77_tf,impl_messageOk,g77_E] <;> (try simp only [map_to_bind,g77_O])
def g77_r:Rule:=RlO g77_E (fun a=>impl_messageOk a) g77_O
theorem g77_ok:RuleOk Tryz.prog 71 g77_r:=ok_rlo (S:=g77_S) (tf:=g77_tf) (SysOk.on ⟨g132_ok,trivial⟩ trivial) (trE_ok (ks:=[]) Tryz.func71 (by kernel_rfl)) fun a=>g77_run a
@[simp] theorem g77_app (y0 y1 y2):g77_r [(.agg [(.int .i64 y0),(.int .i64 y1),(.str y2)])] = (impl_messageOk ((y0,y1,y2))).map g77_O :=
  RlO_app (enc:=g77_E) (by intro a b h; simp [g77_E,Prod.ext_iff] at h ⊢; simp [h]) ((y0,y1,y2))
/-! impl.ValidHeader.1 -/
def g28_tf:TFn:=⟨(.seq (.ops [bx 1 0,oo 2 (.mv (kb false))]) (.trim [1] (.seq (.ops [ln 3 3 1,ca 4 71 [.t 3],nt 5 4,mo 2 5]) (.keep ⟨[(2,0)],[],0⟩ .ret)))),[.t 2]⟩
abbrev g28_S:=Sys.on [(71,g77_r)] []
def impl_ValidHeader_c1 (a_m:Int × Int × Str):Option (Bool):=(impl_messageOk a_m).bind fun r1=>some ((!r1))
@[simp] def g28_O:Bool → TV × List Blk:=fun r=>((.bool r),[])
def g28_E (a:(Int × Int × Str)):List TV:=[(.agg [(.int .i64 a.1),(.int .i64 a.2.1),(.str a.2.2)])]
theorem g28_run (a_m:Int × Int × Str) :callFn (X g28_S) g28_tf (g28_E a_m) [] = (impl_ValidHeader_c1 a_m).map g28_O:=by
  rw [callFn_eq]
  simp (maxSteps:=2000000) (maxDischargeDepth:=8) -implicitDefEqProofs [g28_tf,impl_ValidHeader_c1,g28_E] <;> (try simp only [map_to_bind,g28_O])
def g28_r:Rule:=RlO g28_E (fun a=>impl_ValidHeader_c1 a) g28_O
theorem g28_ok:RuleOk Tryz.prog 70 g28_r:=ok_rlo (S:=g28_S) (tf:=g28_tf) (SysOk.on ⟨g77_ok,trivial⟩ trivial) (trE_ok (ks:=[]) Tryz.func70 (by kernel_rfl)) fun a=>g28_run a
@[simp] theorem g28_app (y0 y1 y2):g28_r [(.agg [(.int .i64 y0),(.int .i64 y1),(.str y2)])] = (impl_ValidHeader_c1 ((y0,y1,y2))).map g28_O :=
  RlO_app (enc:=g28_E) (by intro a b h; simp [g28_E,Prod.ext_iff] at h ⊢; simp [h]) ((y0,y1,y2))
/-! slices.IndexFunc[[]impl.Message,impl.Message] -/
def g2l1_cb:TC:=(.seq (.ops [bn 9 .lss (.t 8) (.t 7)]) (.trim [0,1,7,8,9] (.seq (.cond (.t 9) .skip (.keep ⟨[],[],0⟩ (.exit 0))) (.trim [0,1,7,8] (.seq (.block 1 (.seq (.ops [mo 10 8,mo 5 10]) (.trim [0,1,5,7,8] (.seq (.ops [mo 11 1,mo 12 0,mo 13 5,ia 14 3 12 13,ln 15 3 14,oo 16 (.callv (.t 11) [.t 15])]) (.trim [0,1,5,7,8,16] (.cond (.t 16) (.seq (.ops [mo 17 5,mo 4 17]) (.keep ⟨[(4,0)],[],0⟩ .ret)) .skip)))))) (.trim [0,1,7,8] (.after (.ops [bn 18 .add (.t 8) (ki 1),mo 8 18]) ⟨[(0,0),(1,0),(7,0),(8,0)],[],0⟩)))))))
def g2l1_c:TC:=.loop [0,1,7,8] g2l1_cb
def g2_tf:TFn:=⟨(.seq (.ops [oo 4 (.mv (ki 0))]) (.trim [0,1] (.seq (.seq (.ops [mo 6 0,le 7 6,oo 8 (.mv (ki 0))]) (.trim [0,1,7,8] (.block 0 (.keep ⟨[(0,0),(1,0),(7,0),(8,0)],[],0⟩ g2l1_c)))) (.trim [] (.seq (.ops [oo 4 (.mv (ki (-1)))]) (.keep ⟨[(4,0)],[],0⟩ .ret)))))),[.t 4]⟩
abbrev g2_S:=Sys.on [(70,g28_r)] []
@[reducible,simp] def g2l1_F:((Unit) ⊕ (Int)) → Out:=(Sum.elim (fun t=>(.ext 0,[],[])) (fun t=>(.ret,[(4,(.int .i64 t))],[])))
def slices_IndexFunc_impl_Message_impl_Message__ValidHeader_c1_l1_b (v1:List (Int × Int × Str)) (v2:Int) (v3:Int):Option ((Int) ⊕ ((Unit) ⊕ (Int))):=if v3 < v2 then if 0 ≤ v3 then (v1[(v3).toNat]?).bind fun x4=>(impl_ValidHeader_c1 x4).bind fun r5=>if r5 = true then some (.inr (.inr v3)) else some (.inl ((IntKind.i64.wrap (v3 + 1)))) else none else some (.inr (.inl ()))
theorem g2l1_b_eq  (v1:List (Int × Int × Str)) (v2:Int) (v3:Int):X g2_S g2l1_cb (keepEnv [0,1,7,8] [(0,(.vs (rows v1))),(1,(.fn 70 [] [])),(7,(.int .i64 v2)),(8,(.int .i64 v3))]) [] = (slices_IndexFunc_impl_Message_impl_Message__ValidHeader_c1_l1_b v1 v2 v3).map (Sum.elim (fun s=>(TX.nrm,[(0,(.vs (rows v1))),(1,(.fn 70 [] [])),(7,(.int .i64 v2)),(8,(.int .i64 s))],[])) g2l1_F):=by
  simp (maxSteps:=2000000) (maxDischargeDepth:=8) -implicitDefEqProofs [g2l1_cb,slices_IndexFunc_impl_Message_impl_Message__ValidHeader_c1_l1_b] <;> (try simp only [map_to_bind,g2l1_F])
def slices_IndexFunc_impl_Message_impl_Message__ValidHeader_c1_l1 (v1:List (Int × Int × Str)) (v2:Int) (s:Int):Option ((Unit) ⊕ (Int)):=loopO (fun s=>slices_IndexFunc_impl_Message_impl_Message__ValidHeader_c1_l1_b v1 v2 s) s
@[simp] theorem g2l1_eq (y0 y1 y2):X g2_S g2l1_c [(0,(.vs (rows y0))),(1,(.fn 70 [] [])),(7,(.int .i64 y1)),(8,(.int .i64 y2))] [] = (slices_IndexFunc_impl_Message_impl_Message__ValidHeader_c1_l1 y0 y1 y2).map g2l1_F:=by
  exact loop_X _ _ _ _ (by intro r; first | (simp; done) | (rcases r with r | r <;> simp; done) | (rcases r with r | r | r <;> simp; done) | (rcases r with r | r | r | r <;> simp)) (fun s=>g2l1_b_eq  y0 y1 s) y2
def slices_IndexFunc_impl_Message_impl_Message__ValidHeader_c1 (a_s:List (Int × Int × Str)):Option (Int):=(slices_IndexFunc_impl_Message_impl_Message__ValidHeader_c1_l1 a_s ((a_s.length:Int)) 0).bind fun r6=>Sum.elim (fun u7=>some ((-1))) (fun u8=>some u8) r6
@[simp] def g2_O:Int → TV × List Blk:=fun r=>((.int .i64 r),[])
def g2_E (a:(List (Int × Int × Str))):List TV:=[(.vs (rows a)),(.fn 70 [] [])]
theorem g2_run (a_s:List (Int × Int × Str)) :callFn (X g2_S) g2_tf (g2_E a_s) [] = (slices_IndexFunc_impl_Message_impl_Message__ValidHeader_c1 a_s).map g2_O:=by
  rw [callFn_eq]
  simp (maxSteps:=2000000) (maxDischargeDepth:=8) -implicitDefEqProofs [g2_tf,slices_IndexFunc_impl_Message_impl_Message__ValidHeader_c1,g2_E] <;> (try simp only [map_to_bind,g2_O])
def g2_r:Rule:=RlO g2_E (fun a=>slices_IndexFunc_impl_Message_impl_Message__ValidHeader_c1 a) g2_O
theorem g2_ok:RuleOk Tryz.prog 107 g2_r:=ok_rlo (S:=g2_S) (tf:=g2_tf) (SysOk.on ⟨g28_ok,trivial⟩ trivial) (trE_ok (ks:=[[0,1,7,8]]) Tryz.func107 (by kernel_rfl)) fun a=>g2_run a
@[simp] theorem g2_app (y0):g2_r [(.vs (rows y0)),(.fn 70 [] [])] = (slices_IndexFunc_impl_Message_impl_Message__ValidHeader_c1 y0).map g2_O :=
  RlO_app (enc:=g2_E) (by intro a b h; simp [g2_E,Prod.ext_iff] at h ⊢; simp [h]) y0
/-! slices.ContainsFunc[[]impl.Message,impl.Message] -/
def g0_tf:TFn:=⟨(.seq (.ops [oo 4 (.mv (kb false))]) (.trim [0,1] (.seq (.ops [mo 5 0,mo 6 1,ca 7 107 [.t 5,.t 6],bn 8 .geq (.t 7) (ki 0),mo 4 8]) (.keep ⟨[(4,0)],[],0⟩ .ret)))),[.t 4]⟩
abbrev g0_S:=Sys.on [(107,g2_r)] []
def slices_ContainsFunc_impl_Message_impl_Message__ValidHeader_c1 (a_s:List (Int × Int × Str)):Option (Bool):=(slices_IndexFunc_impl_Message_impl_Message__ValidHeader_c1 a_s).bind fun r1=>some ((decide (r1 ≥ 0)))
@[simp] def g0_O:Bool → TV × List Blk:=fun r=>((.bool r),[])
def g0_E (a:(List (Int × Int × Str))):List TV:=[(.vs (rows a)),(.fn 70 [] [])]
theorem g0_run (a_s:List (Int × Int × Str)) :callFn (X g0_S) g0_tf (g0_E a_s) [] = (slices_ContainsFunc_impl_Message_impl_Message__ValidHeader_c1 a_s).map g0_O:=by
  rw [callFn_eq]
  simp (maxSteps:=2000000) (maxDischargeDepth:=8) -implicitDefEqProofs [g0_tf,slices_ContainsFunc_impl_Message_impl_Message__ValidHeader_c1,g0_E] <;> (try simp only [map_to_bind,g0_O])
def g0_r:Rule:=RlO g0_E (fun a=>slices_ContainsFunc_impl_Message_impl_Message__ValidHeader_c1 a) g0_O
theorem g0_ok:RuleOk Tryz.prog 69 g0_r:=ok_rlo (S:=g0_S) (tf:=g0_tf) (SysOk.on ⟨g2_ok,trivial⟩ trivial) (trE_ok (ks:=[]) Tryz.func69 (by kernel_rfl)) fun a=>g0_run a
@[simp] theorem g0_app (y0):g0_r [(.vs (rows y0)),(.fn 70 [] [])] = (slices_ContainsFunc_impl_Message_impl_Message__ValidHeader_c1 y0).map g0_O :=
  RlO_app (enc:=g0_E) (by intro a b h; simp [g0_E,Prod.ext_iff] at h ⊢; simp [h]) y0
/-! impl.ValidHeader -/
def g51_tf:TFn:=⟨(.seq (.ops [bx 1 0,oo 2 (.mv (kb false))]) (.trim [1] (.seq (.after (.ops [fa 3 0 1,ld 4 3,ca 5 65 [.t 4,ki 1,ki 3],mo 6 5,⟨(some 7),(some (6,true)),(.faddr 1 (.t 1))⟩,⟨(some 8),(some (6,true)),(.load none (.t 7))⟩,⟨(some 9),(some (6,true)),(.call 65 [.t 8,ki 0,ki 1000])⟩,pk 10 (.t 6) (.t 9) (kb false),mo 11 10,⟨(some 12),(some (11,true)),(.faddr 2 (.t 1))⟩,⟨(some 13),(some (11,true)),(.load none (.t 12))⟩,⟨(some 14),(some (11,true)),(.len false (.t 13))⟩,⟨(some 15),(some (11,true)),(.bin .num .leq (.t 14) (ki 24))⟩,pk 16 (.t 11) (.t 15) (kb false),mo 17 16,⟨(some 18),(some (17,true)),(.faddr 2 (.t 1))⟩,⟨(some 19),(some (17,true)),(.load none (.t 18))⟩,⟨(some 20),(some (17,true)),(.call 69 [.t 19,(.c (.fn 70 [] []))])⟩,⟨(some 21),(some (17,true)),(.un .not (.t 20))⟩,pk 22 (.t 17) (.t 21) (kb false),mo 2 22]) ⟨[(2,0)],[],0⟩) (.keep ⟨[(2,0)],[],0⟩ .ret)))),[.t 2]⟩
abbrev g51_S:=Sys.on [(65,g132_r),(69,g0_r)] []
def impl_ValidHeader (a_h:K2):Option (Bool):=(impl_within a_h.1 1 3).bind fun r1=>if r1 = true then (impl_within a_h.2.1 0 1000).bind fun r2=>if r2 = true then if (a_h.2.2.length:Int) ≤ 24 then (slices_ContainsFunc_impl_Message_impl_Message__ValidHeader_c1 a_h.2.2).bind fun r3=>some ((!r3)) else some false else some false else some false
@[simp] def g51_O:Bool → TV × List Blk:=fun r=>((.bool r),[])
def g51_E (a:K2):List TV:=[(.agg [(.int .i64 a.1),(.int .i64 a.2.1),(.vs (rows a.2.2))])]
theorem g51_run (a_h:K2) :callFn (X g51_S) g51_tf (g51_E a_h) [] = (impl_ValidHeader a_h).map g51_O:=by
  rw [callFn_eq]
  simp (maxSteps:=2000000) (maxDischargeDepth:=8) -implicitDefEqProofs [g51_tf,impl_ValidHeader,g51_E] <;> (try simp only [map_to_bind,g51_O])
def g51_r:Rule:=RlO g51_E (fun a=>impl_ValidHeader a) g51_O
theorem g51_ok:RuleOk Tryz.prog 30 g51_r:=ok_rlo (S:=g51_S) (tf:=g51_tf) (SysOk.on ⟨g132_ok,g0_ok,trivial⟩ trivial) (trE_ok (ks:=[]) Tryz.func30 (by kernel_rfl)) fun a=>g51_run a
@[simp] theorem g51_app (y0 y1 y2):g51_r [(.agg [(.int .i64 y0),(.int .i64 y1),(.vs (rows y2))])] = (impl_ValidHeader ((y0,y1,y2))).map g51_O :=
  RlO_app (enc:=g51_E) (by intro a b h; simp [g51_E,Prod.ext_iff] at h ⊢; simp [h]) ((y0,y1,y2))
/-! slices.Clone[[]string,string] -/
theorem g14_fn:FnOk Tryz.prog 136 (cloneTF 9 [(.str [])] 1 16):=trF_ok (ks:=[]) Tryz.func136 (by kernel_rfl)
noncomputable def slices_Clone_string_string_ (l:List (Str)):Option (List (Str)):=appL 16 [] l
noncomputable def g14_r:Rule:=RlO (fun (l:List (Str))=>[TV.vs (rows l)]) (fun l=>slices_Clone_string_string_ l) (fun r=>(ow 0 r.length,[ob 1 r]))
theorem g14_ok:RuleOk Tryz.prog 136 g14_r:=clone_ok rfl g14_fn
@[simp] theorem g14_app (y0):g14_r [TV.vs (rows y0)] = (slices_Clone_string_string_ y0).map (fun r=>(ow 0 r.length,[ob 1 r])):=RlO_app (enc:=fun (y0:List (Str))=>[TV.vs (rows y0)]) (g:=fun y0=>slices_Clone_string_string_ y0) (by intro a b h; simpa using h) y0
/-! slices.Clone[[]impl.Put,impl.Put] -/
theorem g12_fn:FnOk Tryz.prog 137 (cloneTF 135 [(.int .i64 0),(.str [])] 2 24):=trF_ok (ks:=[]) Tryz.func137 (by kernel_rfl)
noncomputable def slices_Clone_impl_Put_impl_Put_ (l:List (Int × Str)):Option (List (Int × Str)):=appL 24 [] l
noncomputable def g12_r:Rule:=RlO (fun (l:List (Int × Str))=>[TV.vs (rows l)]) (fun l=>slices_Clone_impl_Put_impl_Put_ l) (fun r=>(ow 0 r.length,[ob 2 r]))
theorem g12_ok:RuleOk Tryz.prog 137 g12_r:=clone_ok rfl g12_fn
@[simp] theorem g12_app (y0):g12_r [TV.vs (rows y0)] = (slices_Clone_impl_Put_impl_Put_ y0).map (fun r=>(ow 0 r.length,[ob 2 r])):=RlO_app (enc:=fun (y0:List (Int × Str))=>[TV.vs (rows y0)]) (g:=fun y0=>slices_Clone_impl_Put_impl_Put_ y0) (by intro a b h; simpa using h) y0
/-! (impl.Disk).clone -/
def g63_tf:TFn:=⟨(.seq (.ops [bx 1 0,oo 2 (.alloc [.nils,.nils,(.int .i64 0),(.bool false)])]) (.trim [1,2] (.seq (.draw [([],fa 3 0 1),([0],ld 4 3),([0,1],ca 5 136 [.t 4]),([],fa 6 1 1),([3],ld 7 6),([0,1,2,3,4],ca 8 137 [.t 7]),([],fa 9 2 1),([6],ld 10 9),([],fa 11 3 1),([8],ld 12 11)] [oo 13 (.build [.nils,.nils,(.int .i64 0),(.bool false)] [(0,1,(.t 5)),(1,1,(.t 8)),(2,1,(.t 10)),(3,1,(.t 12))]),⟨none,none,(.store 4 (.t 2) (.t 13))⟩]) (.keep ⟨[(2,0)],[(1,2),(2,1),(3,1)],0⟩ .ret)))),[.cell 2 (some 4)]⟩
abbrev g63_S:=Sys.on [(136,g14_r),(137,g12_r)] []
def impl_Disk_clone (a_d:K0):Option (K0):=(slices_Clone_string_string_ a_d.1).bind fun r1=>(slices_Clone_impl_Put_impl_Put_ a_d.2.1).bind fun r2=>some ((r1,r2,a_d.2.2.1,a_d.2.2.2))
@[simp] def g63_O:(K0) → TV × List Blk:=fun r=>((.agg [(ow 1 r.1.length),(ow 2 r.2.1.length),(.int .i64 r.2.2.1),(.bool r.2.2.2)]),[(.live 4 [[(ow 1 r.1.length),(ow 2 r.2.1.length),(.int .i64 r.2.2.1),(.bool r.2.2.2)]]),(ob 1 r.1),(ob 2 r.2.1)])
def g63_E (a:K0):List TV:=[(.agg [(.vs (rows a.1)),(.vs (rows a.2.1)),(.int .i64 a.2.2.1),(.bool a.2.2.2)])]
theorem g63_run (a_d:K0) :callFn (X g63_S) g63_tf (g63_E a_d) [] = (impl_Disk_clone a_d).map g63_O:=by
  rw [callFn_eq]
  simp (maxSteps:=2000000) (maxDischargeDepth:=8) -implicitDefEqProofs [g63_tf,impl_Disk_clone,g63_E] <;> (try simp only [map_to_bind,g63_O])
def g63_r:Rule:=RlO g63_E (fun a=>impl_Disk_clone a) g63_O
theorem g63_ok:RuleOk Tryz.prog 108 g63_r:=ok_rlo (S:=g63_S) (tf:=g63_tf) (SysOk.on ⟨g14_ok,g12_ok,trivial⟩ trivial) (trE_ok (ks:=[[10]]) Tryz.func108 (by kernel_rfl)) fun a=>g63_run a
@[simp] theorem g63_app (y0 y1 y2 y3):g63_r [(.agg [(.vs (rows y0)),(.vs (rows y1)),(.int .i64 y2),(.bool y3)])] = (impl_Disk_clone ((y0,y1,y2,y3))).map g63_O :=
  RlO_app (enc:=g63_E) (by intro a b h; simp [g63_E,Prod.ext_iff] at h ⊢; simp [h]) ((y0,y1,y2,y3))
/-! slices.Clone[[]impl.Page,impl.Page] -/
theorem g10_fn:FnOk Tryz.prog 109 (cloneTF 107 [(.int .i64 0),(.str [])] 2 24):=trF_ok (ks:=[]) Tryz.func109 (by kernel_rfl)
noncomputable def slices_Clone_impl_Page_impl_Page_ (l:List (Int × Str)):Option (List (Int × Str)):=appL 24 [] l
noncomputable def g10_r:Rule:=RlO (fun (l:List (Int × Str))=>[TV.vs (rows l)]) (fun l=>slices_Clone_impl_Page_impl_Page_ l) (fun r=>(ow 0 r.length,[ob 2 r]))
theorem g10_ok:RuleOk Tryz.prog 109 g10_r:=clone_ok rfl g10_fn
@[simp] theorem g10_app (y0):g10_r [TV.vs (rows y0)] = (slices_Clone_impl_Page_impl_Page_ y0).map (fun r=>(ow 0 r.length,[ob 2 r])):=RlO_app (enc:=fun (y0:List (Int × Str))=>[TV.vs (rows y0)]) (g:=fun y0=>slices_Clone_impl_Page_impl_Page_ y0) (by intro a b h; simpa using h) y0
/-! (impl.Pager).clone -/
def g52_tf:TFn:=⟨(.seq (.ops [bx 1 0,oo 2 (.alloc [.nils,.nils,(.int .i64 0),(.bool false),(.int .i64 0),(.int .i64 0),(.int .i64 0),(.int .i64 0),(.int .i64 0),(.int .i64 0),.nils,.nils])]) (.trim [1,2] (.seq (.ops [fa 3 0 1,ln 4 4 3,ca 5 108 [.t 4],fa 6 0 1,⟨none,none,(.store 4 (.t 6) (.t 5))⟩]) (.trim [1,2] (.seq (.ops [fa 7 10 1,ld 8 7,ca 9 109 [.t 8],fa 10 10 1,⟨none,none,(.store 1 (.t 10) (.t 9))⟩]) (.trim [1,2] (.seq (.ops [fa 11 11 1,ld 12 11,ca 13 109 [.t 12],fa 14 11 1,⟨none,none,(.store 1 (.t 14) (.t 13))⟩]) (.trim [1,2] (.seq (.ops [ln 15 12 1,⟨none,none,(.store 12 (.t 2) (.t 15))⟩]) (.keep ⟨[(2,0)],[(1,2),(3,1),(4,1),(5,1),(6,1)],0⟩ .ret)))))))))),[.cell 2 (some 12)]⟩
abbrev g52_S:=Sys.on [(108,g63_r),(109,g10_r)] []
def impl_Pager_clone (a_p:K1):Option (K1):=(impl_Disk_clone a_p.1).bind fun r1=>(slices_Clone_impl_Page_impl_Page_ a_p.2.2.2.2.1).bind fun r2=>(slices_Clone_impl_Page_impl_Page_ a_p.2.2.2.2.2).bind fun r3=>some ((r1,a_p.2.1,a_p.2.2.1,a_p.2.2.2.1,r2,r3))
@[simp] def g52_O:(K1) → TV × List Blk:=fun r=>((.agg [(ow 1 r.1.1.length),(ow 2 r.1.2.1.length),(.int .i64 r.1.2.2.1),(.bool r.1.2.2.2),(.int .i64 r.2.1.1),(.int .i64 r.2.1.2.1),(.int .i64 r.2.1.2.2.1),(.int .i64 r.2.1.2.2.2),(.int .i64 r.2.2.1),(.int .i64 r.2.2.2.1),(ow 3 r.2.2.2.2.1.length),(ow 4 r.2.2.2.2.2.length)]),[(.live 12 [[(ow 1 r.1.1.length),(ow 2 r.1.2.1.length),(.int .i64 r.1.2.2.1),(.bool r.1.2.2.2),(.int .i64 r.2.1.1),(.int .i64 r.2.1.2.1),(.int .i64 r.2.1.2.2.1),(.int .i64 r.2.1.2.2.2),(.int .i64 r.2.2.1),(.int .i64 r.2.2.2.1),(ow 3 r.2.2.2.2.1.length),(ow 4 r.2.2.2.2.2.length)]]),(ob 1 r.1.1),(ob 2 r.1.2.1),(ob 2 r.2.2.2.2.1),(ob 2 r.2.2.2.2.2)])
def g52_E (a:K1):List TV:=[(.agg [(.vs (rows a.1.1)),(.vs (rows a.1.2.1)),(.int .i64 a.1.2.2.1),(.bool a.1.2.2.2),(.int .i64 a.2.1.1),(.int .i64 a.2.1.2.1),(.int .i64 a.2.1.2.2.1),(.int .i64 a.2.1.2.2.2),(.int .i64 a.2.2.1),(.int .i64 a.2.2.2.1),(.vs (rows a.2.2.2.2.1)),(.vs (rows a.2.2.2.2.2))])]
theorem g52_run (a_p:K1) :callFn (X g52_S) g52_tf (g52_E a_p) [] = (impl_Pager_clone a_p).map g52_O:=by
  rw [callFn_eq]
  simp (maxSteps:=2000000) (maxDischargeDepth:=8) -implicitDefEqProofs [g52_tf,impl_Pager_clone,g52_E] <;> (try simp only [map_to_bind,g52_O])
def g52_r:Rule:=RlO g52_E (fun a=>impl_Pager_clone a) g52_O
theorem g52_ok:RuleOk Tryz.prog 72 g52_r:=ok_rlo (S:=g52_S) (tf:=g52_tf) (SysOk.on ⟨g63_ok,g10_ok,trivial⟩ trivial) (trE_ok (ks:=[]) Tryz.func72 (by kernel_rfl)) fun a=>g52_run a
@[simp] theorem g52_app (y0 y1 y2 y3 y4 y5 y6 y7 y8 y9 y10 y11):g52_r [(.agg [(.vs (rows y0)),(.vs (rows y1)),(.int .i64 y2),(.bool y3),(.int .i64 y4),(.int .i64 y5),(.int .i64 y6),(.int .i64 y7),(.int .i64 y8),(.int .i64 y9),(.vs (rows y10)),(.vs (rows y11))])] = (impl_Pager_clone (((y0,y1,y2,y3),(y4,y5,y6,y7),y8,y9,y10,y11))).map g52_O :=
  RlO_app (enc:=g52_E) (by intro a b h; simp [g52_E,Prod.ext_iff] at h ⊢; simp [h]) (((y0,y1,y2,y3),(y4,y5,y6,y7),y8,y9,y10,y11))
/-! impl.putBytes -/
def g93l1_cb:TC:=(.seq (.ops [bn 12 .lss (.t 11) (.t 10)]) (.trim [0,5,10,11,12] (.seq (.cond (.t 12) .skip (.keep ⟨[(5,1)],[(0,1)],0⟩ (.exit 0))) (.trim [0,5,10,11] (.seq (.block 1 (.seq (.ops [mo 13 11,mo 6 13]) (.trim [0,5,6,10,11] (.ops [mo 14 5,mo 15 6,mo 16 0,mo 17 6,bn 18 .mul (ki 8) (.t 17),bn 19 .shr (.t 16) (.t 18),oo 20 (.conv (.toInt .u8) (.t 19)),ia 21 1 14 15,⟨none,none,(.store 1 (.t 21) (.t 20))⟩])))) (.trim [0,5,10,11] (.after (.ops [bn 22 .add (.t 11) (ki 1),mo 11 22]) ⟨[(0,0),(5,1),(10,0),(11,0)],[(0,1)],0⟩)))))))
def g93l1_c:TC:=.loop [0,5,10,11] g93l1_cb
def g93_tf:TFn:=⟨(.seq (.ops [oo 4 (.mv (.c (.str [])))]) (.trim [0,1] (.seq (.ops [mo 7 1,oo 8 (.mkslice 1 [(.int .u8 0)] (.t 7) (.t 7)),mo 5 8]) (.trim [0,5] (.seq (.seq (.ops [mo 9 5,le 10 9,oo 11 (.mv (ki 0))]) (.trim [0,5,10,11] (.block 0 (.keep ⟨[(0,0),(5,1),(10,0),(11,0)],[(0,1)],0⟩ g93l1_c)))) (.trim [5] (.seq (.ops [mo 23 5,oo 24 (.conv .toStr (.t 23)),mo 4 24]) (.keep ⟨[(4,0)],[],0⟩ .ret)))))))),[.t 4]⟩
abbrev g93_S:=Sys.on [] []
@[reducible,simp] def g93l1_F:(List Bt) → Out:=(fun t=>(.ext 0,[(5,(ow 0 t.length))],[(ob 1 t)]))
def impl_putBytes_l1_b (v2:Int) (v4:Int) (v3:List Bt) (v5:Int):Option ((List Bt × Int) ⊕ (List Bt)):=if v5 < v4 then if (IntKind.i64.wrap (8 * v5)) < 0 then none else if 0 ≤ v5 ∧ v5 < ((v3.length:Nat):Int) then (v3[(v5).toNat]?).bind fun x6=>some (.inl ((v3.set (v5).toNat (⟨UInt8.ofNat ((IntKind.u8.wrap ((shrV .i64 v2 ((IntKind.i64.wrap (8 * v5))))))).toNat⟩:Bt)),(IntKind.i64.wrap (v5 + 1)))) else none else some (.inr v3)
theorem g93l1_b_eq  (v2:Int) (v4:Int) (v3:List Bt) (v5:Int):X g93_S g93l1_cb (keepEnv [0,5,10,11] [(0,(.int .i64 v2)),(5,(ow 0 v3.length)),(10,(.int .i64 v4)),(11,(.int .i64 v5))]) [(ob 1 v3)] = (impl_putBytes_l1_b v2 v4 v3 v5).map (Sum.elim (fun s=>(TX.nrm,[(0,(.int .i64 v2)),(5,(ow 0 s.1.length)),(10,(.int .i64 v4)),(11,(.int .i64 s.2))],[(ob 1 s.1)])) g93l1_F):=by
  simp (maxSteps:=2000000) (maxDischargeDepth:=8) -implicitDefEqProofs [g93l1_cb,impl_putBytes_l1_b,mksliceV_typed (z:=((⟨0⟩:Bt):Bt)) (zs:=[(.int .u8 0)]) rfl (by decide)] <;> (try simp only [map_to_bind,g93l1_F])
def impl_putBytes_l1 (v2:Int) (v4:Int) (s:List Bt × Int):Option (List Bt):=loopO (fun s=>impl_putBytes_l1_b v2 v4 s.1 s.2) s
@[simp] theorem g93l1_eq (y0)(y1:List Bt)(y2 y3){n1:Nat}(h1:n1 = y1.length):X g93_S g93l1_c [(0,(.int .i64 y0)),(5,(ow 0 n1)),(10,(.int .i64 y2)),(11,(.int .i64 y3))] [(ob 1 y1)] = (impl_putBytes_l1 y0 y2 (y1,y3)).map g93l1_F:=by
  subst h1
  exact loop_X _ _ _ _ (by intro r; first | (simp; done) | (rcases r with r | r <;> simp; done) | (rcases r with r | r | r <;> simp; done) | (rcases r with r | r | r | r <;> simp)) (fun s=>g93l1_b_eq  y0 y2 s.1 s.2) (y1,y3)
def impl_putBytes (a_n:Int) (a_size:Int):Option (Str):=(mkL 1 a_size a_size ((⟨0⟩:Bt):Bt)).bind fun l1=>(impl_putBytes_l1 a_n (((l1.length:Nat):Int)) ((l1,0))).bind fun r7=>some ((r7.map Bt.v))
@[simp] def g93_O:Str → TV × List Blk:=fun r=>((.str r),[])
def g93_E (a:Int × Int):List TV:=[(.int .i64 a.1),(.int .i64 a.2)]
theorem g93_run (a_n:Int) (a_size:Int) :callFn (X g93_S) g93_tf (g93_E (a_n,a_size)) [] = (impl_putBytes a_n a_size).map g93_O:=by
  rw [callFn_eq]
  simp (maxSteps:=2000000) (maxDischargeDepth:=8) -implicitDefEqProofs [g93_tf,impl_putBytes,g93_E,mksliceV_typed (z:=((⟨0⟩:Bt):Bt)) (zs:=[(.int .u8 0)]) rfl (by decide)] <;> (try simp only [map_to_bind,g93_O])
def g93_r:Rule:=RlO g93_E (fun a=>impl_putBytes a.1 a.2) g93_O
theorem g93_ok:RuleOk Tryz.prog 111 g93_r:=ok_rlo (S:=g93_S) (tf:=g93_tf) (SysOk.on trivial trivial) (trE_ok (ks:=[[0,5,10,11]]) Tryz.func111 (by kernel_rfl)) fun a=>g93_run a.1 a.2
@[simp] theorem g93_app (y0 y1):g93_r [(.int .i64 y0),(.int .i64 y1)] = (impl_putBytes y0 y1).map g93_O :=
  RlO_app (enc:=g93_E) (by intro a b h; simp [g93_E,Prod.ext_iff] at h ⊢; simp [h]) (y0,y1)
/-! (*strings.Builder).copyCheck -/
noncomputable def g17_r:MRule:=copy_r 152 5
theorem g17_ok:MRuleOk Tryz.prog 138 2 g17_r:=copyCheck_ok
@[simp] theorem g17_app (l:List Bt) {n:Nat} (h:n = l.length):g17_r [.ptr 0 0 0] [.live 2 [[.bself 0 152,owb 1 n 5]],ob 1 l] = some (.tup [],[.live 2 [[.bself 0 152,owb 1 l.length 5]],ob 1 l]):=copy_app 152 5 l h
/-! (*strings.Builder).WriteString -/
def g13_tf:TFn:=⟨(.seq (.ops [oo 4 (.mv (ki 0)),oo 5 (.mv (.c .nili))]) (.trim [0,1] (.seq (.ops [mo 6 0,oo 7 (.callM 138 0 [0,1] [.t 6])]) (.trim [0,1] (.seq (.ops [mo 8 0,mo 9 0,nk 10 9,fa 11 1 10,ld 12 11,mo 13 1,oo 14 (.append 5 1 1 (.t 12) (.t 13)),nk 15 8,fa 16 1 15,⟨none,none,(.store 1 (.t 16) (.t 14))⟩]) (.trim [1] (.seq (.ops [mo 17 1,oo 18 (.len true (.t 17)),mo 4 18,oo 5 (.mv (.c .nili))]) (.keep ⟨[(4,0),(5,0)],[(0,0),(2,0)],1⟩ .ret)))))))),[.t 4,.t 5]⟩
abbrev g13_S:=Sys.on [] [((138,0),(2,g17_r))]
def strings_Builder_WriteString_o0d (a1:List Bt) (a2:Str):Option (List Bt × Int):=(appL 1 a1 ((a2.map Bt.mk))).bind fun l2=>some (l2,(a2.length:Int))
@[simp] def g13_O:(List Bt × Int) → TV × List Blk:=fun r=>((.tup [(.int .i64 r.2),.nili]),[(.live 2 [[(.bself 0 152),(owb 1 r.1.length 5)]]),(ob 1 r.1)])
abbrev g13_T:=List Bt × Str
def g13_E (a:g13_T):List TV:=[(.ptr 0 0 0),(.str a.2)]
def g13_B (a:g13_T):List Blk:=[(.live 2 [[(.bself 0 152),(owb 1 a.1.length 5)]]),(ob 1 a.1)]
theorem g13_run (a1:List Bt) (a2:Str):callFn (X g13_S) g13_tf (g13_E (a1,a2)) (g13_B (a1,a2)) = (strings_Builder_WriteString_o0d a1 a2).map g13_O:=by
  rw [callFn_eq]
  simp (maxSteps:=2000000) (maxDischargeDepth:=8) -implicitDefEqProofs [g13_tf,strings_Builder_WriteString_o0d,g13_E,g13_B] <;> (try simp only [map_to_bind,g13_O])
def g13_r:MRule:=RmO g13_E g13_B (fun a=>strings_Builder_WriteString_o0d a.1 a.2) g13_O
theorem g13_ok:MRuleOk Tryz.prog 110 1 g13_r:=ok_rmo (S:=g13_S) (tf:=g13_tf) (SysOk.on trivial ⟨g17_ok,trivial⟩) (trE_ok (ks:=[]) Tryz.func110 (by kernel_rfl)) (by rfl) (fun _=>by simp [g13_B]) (fun _=>by simp) fun a=>g13_run a.1 a.2
@[simp] theorem g13_app (y0:List Bt)(y1){n1:Nat}(h1:n1 = y0.length):g13_r [(.ptr 0 0 0),(.str y1)] [(.live 2 [[(.bself 0 152),(owb 1 n1 5)]]),(ob 1 y0)] = (strings_Builder_WriteString_o0d y0 y1).map g13_O:=by
  subst h1
  exact RmO_app (enc:=g13_E) (encB:=g13_B) (by intro a b h h2; simp [g13_E,g13_B,Prod.ext_iff] at h h2 ⊢; simp [h,h2]) (y0,y1)
/-! (*strings.Builder).String -/
def g16_tf:TFn:=⟨(.seq (.ops [oo 2 (.mv (.c (.str [])))]) (.trim [0] (.seq (.draw [([],mo 3 0),([0],nk 4 3),([0,1],fa 5 1 4),([0,1,2],ld 6 5),([0,1,2,3],oo 7 (.sdata (.t 6))),([],mo 8 0),([5],nk 9 8),([5,6],fa 10 1 9),([5,6,7],ld 11 10),([5,6,7,8],le 12 11)] [oo 13 (.ustr 5 (.t 7) (.t 12)),mo 2 13]) (.keep ⟨[(2,0)],[(0,4)],1⟩ .ret)))),[.t 2]⟩
abbrev g16_S:=Sys.on [] []
def strings_Builder_String_of5 (a1:List Bt):Option (Str):=(strB a1).bind fun s1=>some s1
@[simp] def g16_O:Str → TV × List Blk:=fun r=>((.str r),[.dead])
abbrev g16_T:=List Bt
def g16_E (a:g16_T):List TV:=[(.ptr 0 0 0)]
def g16_B (a:g16_T):List Blk:=[(.live 2 [[(.bself 0 152),(owb 1 a.length 5)]]),(ob 1 a)]
theorem g16_run (a1:List Bt):callFn (X g16_S) g16_tf (g16_E a1) (g16_B a1) = (strings_Builder_String_of5 a1).map g16_O:=by
  rw [callFn_eq]
  simp (maxSteps:=2000000) (maxDischargeDepth:=8) -implicitDefEqProofs [g16_tf,strings_Builder_String_of5,g16_E,g16_B] <;> (try simp only [map_to_bind,g16_O])
def g16_r:MRule:=RmO g16_E g16_B (fun a=>strings_Builder_String_of5 a) g16_O
theorem g16_ok:MRuleOk Tryz.prog 112 1 g16_r:=ok_rmo (S:=g16_S) (tf:=g16_tf) (SysOk.on trivial trivial) (trE_ok (ks:=[[10]]) Tryz.func112 (by kernel_rfl)) (by rfl) (fun _=>by simp [g16_B]) (fun _=>by simp) fun a=>g16_run a
@[simp] theorem g16_app (y0:List Bt){n1:Nat}(h1:n1 = y0.length):g16_r [(.ptr 0 0 0)] [(.live 2 [[(.bself 0 152),(owb 1 n1 5)]]),(ob 1 y0)] = (strings_Builder_String_of5 y0).map g16_O:=by
  subst h1
  exact RmO_app (enc:=g16_E) (encB:=g16_B) (by intro a b h h2; simp [g16_E,g16_B,Prod.ext_iff] at h h2 ⊢; simp [h,h2]) y0
/-! (impl.Header).encode -/
def g34l1_cb:TC:=(.seq (.ops [bn 23 .lss (.t 22) (.t 21)]) (.trim [3,20,21,22,23] (.seq (.cond (.t 23) .skip (.keep ⟨[(3,0)],[(0,0),(1,0)],0⟩ (.exit 0))) (.trim [3,20,21,22] (.seq (.block 1 (.seq (.ops [ia 24 3 20 22,ln 25 3 24,oo 5 (.alloc [(.int .i64 0),(.int .i64 0),(.str [])]),⟨none,none,(.store 3 (.t 5) (.t 25))⟩]) (.trim [3,5,20,21,22] (.draw [([],fa 26 0 5),([0],ld 27 26),([0,1],ca 28 111 [.t 27,ki 1]),([],fa 29 1 5),([3],ld 30 29),([0,1,2,3,4],ca 31 111 [.t 30,ki 1]),([0,1,2,3,4,5],oo 32 (.bin .str .add (.t 28) (.t 31))),([],fa 33 2 5),([7],ld 34 33),([7,8],oo 35 (.len true (.t 34))),([0,1,2,3,4,5,7,8,9],ca 36 111 [.t 35,ki 1]),([0,1,2,3,4,5,6,7,8,9,10],oo 37 (.bin .str .add (.t 32) (.t 36))),([],fa 38 2 5),([12],ld 39 38)] [oo 40 (.bin .str .add (.t 37) (.t 39)),oo 41 (.callM 110 0 [0,1] [.t 3,.t 40])])))) (.trim [3,20,21,22] (.after (.ops [bn 42 .add (.t 22) (ki 1),mo 22 42]) ⟨[(3,0),(20,0),(21,0),(22,0)],[(0,0),(3,0)],0⟩)))))))
def g34l1_c:TC:=.loop [3,20,21,22] g34l1_cb
def g34_tf:TFn:=⟨(.seq (.ops [bx 1 0,oo 2 (.mv (.c (.str [])))]) (.trim [1] (.seq (.ops [oo 3 (.allocB 152)]) (.trim [1,3] (.seq (.draw [([],fa 6 0 1),([0],ld 7 6),([0,1],ca 8 111 [.t 7,ki 1]),([],fa 9 1 1),([3],ld 10 9),([0,1,2,3,4],ca 11 111 [.t 10,ki 2]),([0,1,2,3,4,5],oo 12 (.bin .str .add (.t 8) (.t 11))),([],fa 13 2 1),([7],ld 14 13),([7,8],le 15 14),([0,1,2,3,4,5,7,8,9],ca 16 111 [.t 15,ki 1])] [oo 17 (.bin .str .add (.t 12) (.t 16)),oo 18 (.callM 110 0 [1,2] [.t 3,.t 17])]) (.trim [1,3] (.seq (.seq (.ops [fa 19 2 1,ld 20 19,le 21 20,oo 22 (.mv (ki 0))]) (.trim [3,20,21,22] (.block 0 (.keep ⟨[(3,0),(20,0),(21,0),(22,0)],[(1,0),(3,0)],0⟩ g34l1_c)))) (.trim [3] (.seq (.ops [oo 43 (.callM 112 0 [0,1] [.t 3]),mo 2 43]) (.keep ⟨[(2,0)],[],0⟩ .ret)))))))))),[.t 2]⟩
abbrev g34_S:=Sys.on [(111,g93_r)] [((110,0),(1,g13_r)),((112,0),(1,g16_r))]
@[reducible,simp] def g34l1_F:(List Bt) → Out:=(fun t=>(.ext 0,[(3,(.ptr 0 0 0))],[(.live 2 [[(.bself 0 152),(owb 1 t.length 5)]]),(ob 1 t)]))
def impl_Header_encode_l1_b (v6:List (Int × Int × Str)) (v7:Int) (v5:List Bt) (v8:Int):Option ((List Bt × Int) ⊕ (List Bt)):=if v8 < v7 then if 0 ≤ v8 then (v6[(v8).toNat]?).bind fun x9=>(impl_putBytes x9.1 1).bind fun r10=>(impl_putBytes x9.2.1 1).bind fun r11=>if r10.length + r11.length ≤ 9223372036854775807 then (impl_putBytes ((x9.2.2.length:Int)) 1).bind fun r12=>if ((r10 ++ r11)).length + r12.length ≤ 9223372036854775807 then if (((r10 ++ r11) ++ r12)).length + x9.2.2.length ≤ 9223372036854775807 then (strings_Builder_WriteString_o0d v5 ((((r10 ++ r11) ++ r12) ++ x9.2.2))).bind fun r13=>some (.inl (r13.1,(IntKind.i64.wrap (v8 + 1)))) else none else none else none else none else some (.inr v5)
theorem g34l1_b_eq  (v6:List (Int × Int × Str)) (v7:Int) (v5:List Bt) (v8:Int):X g34_S g34l1_cb (keepEnv [3,20,21,22] [(3,(.ptr 0 0 0)),(20,(.vs (rows v6))),(21,(.int .i64 v7)),(22,(.int .i64 v8))]) [(.live 2 [[(.bself 0 152),(owb 1 v5.length 5)]]),(ob 1 v5)] = (impl_Header_encode_l1_b v6 v7 v5 v8).map (Sum.elim (fun s=>(TX.nrm,[(3,(.ptr 0 0 0)),(20,(.vs (rows v6))),(21,(.int .i64 v7)),(22,(.int .i64 s.2))],[(.live 2 [[(.bself 0 152),(owb 1 s.1.length 5)]]),(ob 1 s.1)])) g34l1_F):=by
  simp (maxSteps:=2000000) (maxDischargeDepth:=8) -implicitDefEqProofs [g34l1_cb,impl_Header_encode_l1_b] <;> (try simp only [map_to_bind,g34l1_F])
def impl_Header_encode_l1 (v6:List (Int × Int × Str)) (v7:Int) (s:List Bt × Int):Option (List Bt):=loopO (fun s=>impl_Header_encode_l1_b v6 v7 s.1 s.2) s
@[simp] theorem g34l1_eq (y0 y1 y2 y3):X g34_S g34l1_c [(3,(.ptr 0 0 0)),(20,(.vs (rows y1))),(21,(.int .i64 y2)),(22,(.int .i64 y3))] [(.live 2 [[(.bself 0 152),(owb 1 y0.length 5)]]),(ob 1 y0)] = (impl_Header_encode_l1 y1 y2 (y0,y3)).map g34l1_F:=by
  exact loop_X _ _ _ _ (by intro r; first | (simp; done) | (rcases r with r | r <;> simp; done) | (rcases r with r | r | r <;> simp; done) | (rcases r with r | r | r | r <;> simp)) (fun s=>g34l1_b_eq  y1 y2 s.1 s.2) (y0,y3)
def impl_Header_encode (a_h:K2):Option (Str):=(impl_putBytes a_h.1 1).bind fun r1=>(impl_putBytes a_h.2.1 2).bind fun r2=>if r1.length + r2.length ≤ 9223372036854775807 then (impl_putBytes ((a_h.2.2.length:Int)) 1).bind fun r3=>if ((r1 ++ r2)).length + r3.length ≤ 9223372036854775807 then (strings_Builder_WriteString_o0d nilB (((r1 ++ r2) ++ r3))).bind fun r4=>(impl_Header_encode_l1 a_h.2.2 ((a_h.2.2.length:Int)) ((r4.1,0))).bind fun r14=>(strings_Builder_String_of5 r14).bind fun r15=>some r15 else none else none
@[simp] def g34_O:Str → TV × List Blk:=fun r=>((.str r),[])
def g34_E (a:K2):List TV:=[(.agg [(.int .i64 a.1),(.int .i64 a.2.1),(.vs (rows a.2.2))])]
theorem g34_run (a_h:K2) :callFn (X g34_S) g34_tf (g34_E a_h) [] = (impl_Header_encode a_h).map g34_O:=by
  rw [callFn_eq]
  simp (maxSteps:=2000000) (maxDischargeDepth:=8) -implicitDefEqProofs [g34_tf,impl_Header_encode,g34_E] <;> (try simp only [map_to_bind,g34_O])
def g34_r:Rule:=RlO g34_E (fun a=>impl_Header_encode a) g34_O
theorem g34_ok:RuleOk Tryz.prog 73 g34_r:=ok_rlo (S:=g34_S) (tf:=g34_tf) (SysOk.on ⟨g93_ok,trivial⟩ ⟨g13_ok,g16_ok,trivial⟩) (trE_ok (ks:=[[11],[3,20,21,22],[14]]) Tryz.func73 (by kernel_rfl)) fun a=>g34_run a
@[simp] theorem g34_app (y0 y1 y2):g34_r [(.agg [(.int .i64 y0),(.int .i64 y1),(.vs (rows y2))])] = (impl_Header_encode ((y0,y1,y2))).map g34_O :=
  RlO_app (enc:=g34_E) (by intro a b h; simp [g34_E,Prod.ext_iff] at h ⊢; simp [h]) ((y0,y1,y2))
/-! impl.chainLen -/
def g94_tf:TFn:=⟨(.seq (.ops [oo 2 (.mv (ki 0))]) (.trim [0] (.seq (.ops [mo 3 0,oo 4 (.len true (.t 3)),bn 5 .add (.t 4) (ki 60),bn 6 .sub (.t 5) (ki 1),bn 7 .quo (.t 6) (ki 60),mo 2 7]) (.keep ⟨[(2,0)],[],0⟩ .ret)))),[.t 2]⟩
abbrev g94_S:=Sys.on [] []
def impl_chainLen (a_form:Str):Option (Int):=some ((IntKind.i64.wrap (Int.tdiv ((IntKind.i64.wrap ((IntKind.i64.wrap ((a_form.length:Int) + 60)) - 1))) 60)))
@[simp] def g94_O:Int → TV × List Blk:=fun r=>((.int .i64 r),[])
def g94_E (a:Str):List TV:=[(.str a)]
theorem g94_run (a_form:Str) :callFn (X g94_S) g94_tf (g94_E a_form) [] = (impl_chainLen a_form).map g94_O:=by
  rw [callFn_eq]
  simp (maxSteps:=2000000) (maxDischargeDepth:=8) -implicitDefEqProofs [g94_tf,impl_chainLen,g94_E] <;> (try simp only [map_to_bind,g94_O])
def g94_r:Rule:=RlO g94_E (fun a=>impl_chainLen a) g94_O
theorem g94_ok:RuleOk Tryz.prog 75 g94_r:=ok_rlo (S:=g94_S) (tf:=g94_tf) (SysOk.on trivial trivial) (trE_ok (ks:=[]) Tryz.func75 (by kernel_rfl)) fun a=>g94_run a
@[simp] theorem g94_app (y0):g94_r [(.str y0)] = (impl_chainLen y0).map g94_O :=
  RlO_app (enc:=g94_E) (by intro a b h; simp [g94_E,Prod.ext_iff] at h ⊢; simp [h]) y0
/-! (*impl.Pager).area -/
def g64_tf:TFn:=⟨(.seq (.ops [oo 2 (.mv (ki 0))]) (.trim [0] (.seq (.ops [mo 3 0,nk 4 3,fa 5 4 4,fa 6 1 5,ld 7 6,bn 8 .add (ki 2) (.t 7),mo 2 8]) (.keep ⟨[(2,0)],[],0⟩ .ret)))),[.t 2]⟩
abbrev g64_S:=Sys.on [] []
def impl_Pager_area (a_p:K1):Option (Int):=some ((IntKind.i64.wrap (2 + a_p.2.1.2.1)))
@[simp] def g64_O:Int → TV × List Blk:=fun r=>((.int .i64 r),[])
def g64_E (a:K1 × List TV):List TV:=[(.vp ((.vs (rows a.1.1.1))::(.vs (rows a.1.1.2.1))::(.int .i64 a.1.1.2.2.1)::(.bool a.1.1.2.2.2)::(.int .i64 a.1.2.1.1)::(.int .i64 a.1.2.1.2.1)::(.int .i64 a.1.2.1.2.2.1)::(.int .i64 a.1.2.1.2.2.2)::(.int .i64 a.1.2.2.1)::(.int .i64 a.1.2.2.2.1)::(.vs (rows a.1.2.2.2.2.1))::(.vs (rows a.1.2.2.2.2.2))::a.2))]
theorem g64_run (a_p:K1) (q0:List TV):callFn (X g64_S) g64_tf (g64_E (a_p,q0)) [] = (impl_Pager_area a_p).map g64_O:=by
  rw [callFn_eq]
  simp (maxSteps:=2000000) (maxDischargeDepth:=8) -implicitDefEqProofs [g64_tf,impl_Pager_area,g64_E] <;> (try simp only [map_to_bind,g64_O])
def g64_r:Rule:=RlO g64_E (fun a=>impl_Pager_area a.1) g64_O
theorem g64_ok:RuleOk Tryz.prog 143 g64_r:=ok_rlo (S:=g64_S) (tf:=g64_tf) (SysOk.on trivial trivial) (trE_ok (ks:=[]) Tryz.func143 (by kernel_rfl)) fun a=>g64_run a.1 a.2
@[simp] theorem g64_app (y0 y1 y2 y3 y4 y5 y6 y7 y8 y9 y10 y11)(q0:List TV):g64_r [(.vp ((.vs (rows y0))::(.vs (rows y1))::(.int .i64 y2)::(.bool y3)::(.int .i64 y4)::(.int .i64 y5)::(.int .i64 y6)::(.int .i64 y7)::(.int .i64 y8)::(.int .i64 y9)::(.vs (rows y10))::(.vs (rows y11))::q0))] = (impl_Pager_area (((y0,y1,y2,y3),(y4,y5,y6,y7),y8,y9,y10,y11))).map g64_O :=
  RlO_app (enc:=g64_E) (by intro a b h; simp [g64_E,Prod.ext_iff] at h ⊢; simp [h]) (((y0,y1,y2,y3),(y4,y5,y6,y7),y8,y9,y10,y11),q0)
/-! (*impl.Pager).isData -/
def g44_tf:TFn:=⟨(.seq (.ops [oo 6 (.mv (kb false))]) (.trim [0,1,2] (.seq (.after (.ops [mo 7 1,mo 8 0,ca 9 143 [.t 8],bn 10 .gtr (.t 7) (.t 9),mo 11 10,⟨(some 12),(some (11,true)),(.mv (.t 2))⟩,⟨(some 13),(some (11,true)),(.mv (.t 0))⟩,⟨(some 14),(some (11,true)),(.nilchk (.t 13))⟩,⟨(some 15),(some (11,true)),(.faddr 4 (.t 14))⟩,⟨(some 16),(some (11,true)),(.faddr 0 (.t 15))⟩,⟨(some 17),(some (11,true)),(.load none (.t 16))⟩,⟨(some 18),(some (11,true)),(.bin .num .leq (.t 12) (.t 17))⟩,pk 19 (.t 11) (.t 18) (kb false),mo 20 19,⟨(some 21),(some (20,true)),(.mv (.t 1))⟩,⟨(some 22),(some (20,true)),(.mv (.t 0))⟩,⟨(some 23),(some (20,true)),(.nilchk (.t 22))⟩,⟨(some 24),(some (20,true)),(.faddr 4 (.t 23))⟩,⟨(some 25),(some (20,true)),(.faddr 0 (.t 24))⟩,⟨(some 26),(some (20,true)),(.load none (.t 25))⟩,⟨(some 27),(some (20,true)),(.mv (.t 2))⟩,⟨(some 28),(some (20,true)),(.bin .num .sub (.t 26) (.t 27))⟩,⟨(some 29),(some (20,true)),(.bin .num .leq (.t 21) (.t 28))⟩,pk 30 (.t 20) (.t 29) (kb false),mo 6 30]) ⟨[(6,0)],[],0⟩) (.keep ⟨[(6,0)],[],0⟩ .ret)))),[.t 6]⟩
abbrev g44_S:=Sys.on [(143,g64_r)] []
def impl_Pager_isData (a_p:K1) (a_at:Int) (a_n:Int):Option (Bool):=(impl_Pager_area a_p).bind fun r1=>if a_at > r1 then if a_n ≤ a_p.2.1.1 then some ((decide (a_at ≤ (IntKind.i64.wrap (a_p.2.1.1 - a_n))))) else some false else some false
@[simp] def g44_O:Bool → TV × List Blk:=fun r=>((.bool r),[])
def g44_E (a:K1 × Int × Int × List TV):List TV:=[(.vp ((.vs (rows a.1.1.1))::(.vs (rows a.1.1.2.1))::(.int .i64 a.1.1.2.2.1)::(.bool a.1.1.2.2.2)::(.int .i64 a.1.2.1.1)::(.int .i64 a.1.2.1.2.1)::(.int .i64 a.1.2.1.2.2.1)::(.int .i64 a.1.2.1.2.2.2)::(.int .i64 a.1.2.2.1)::(.int .i64 a.1.2.2.2.1)::(.vs (rows a.1.2.2.2.2.1))::(.vs (rows a.1.2.2.2.2.2))::a.2.2.2)),(.int .i64 a.2.1),(.int .i64 a.2.2.1)]
theorem g44_run (a_p:K1) (a_at:Int) (a_n:Int) (q0:List TV):callFn (X g44_S) g44_tf (g44_E (a_p,a_at,a_n,q0)) [] = (impl_Pager_isData a_p a_at a_n).map g44_O:=by
  rw [callFn_eq]
  simp (maxSteps:=2000000) (maxDischargeDepth:=8) -implicitDefEqProofs [g44_tf,impl_Pager_isData,g44_E] <;> (try simp only [map_to_bind,g44_O])
def g44_r:Rule:=RlO g44_E (fun a=>impl_Pager_isData a.1 a.2.1 a.2.2.1) g44_O
theorem g44_ok:RuleOk Tryz.prog 157 g44_r:=ok_rlo (S:=g44_S) (tf:=g44_tf) (SysOk.on ⟨g64_ok,trivial⟩ trivial) (trE_ok (ks:=[]) Tryz.func157 (by kernel_rfl)) fun a=>g44_run a.1 a.2.1 a.2.2.1 a.2.2.2
@[simp] theorem g44_app (y0 y1 y2 y3 y4 y5 y6 y7 y8 y9 y10 y11 y12 y13)(q0:List TV):g44_r [(.vp ((.vs (rows y0))::(.vs (rows y1))::(.int .i64 y2)::(.bool y3)::(.int .i64 y4)::(.int .i64 y5)::(.int .i64 y6)::(.int .i64 y7)::(.int .i64 y8)::(.int .i64 y9)::(.vs (rows y10))::(.vs (rows y11))::q0)),(.int .i64 y12),(.int .i64 y13)] = (impl_Pager_isData (((y0,y1,y2,y3),(y4,y5,y6,y7),y8,y9,y10,y11)) y12 y13).map g44_O :=
  RlO_app (enc:=g44_E) (by intro a b h; simp [g44_E,Prod.ext_iff] at h ⊢; simp [h]) (((y0,y1,y2,y3),(y4,y5,y6,y7),y8,y9,y10,y11),y12,y13,q0)
/-! cmp.isNaN[int64] -/
def g65_tf:TFn:=⟨(.seq (.ops [oo 2 (.mv (kb false))]) (.trim [0] (.seq (.ops [mo 3 0,mo 4 0,bn 5 .neq (.t 3) (.t 4),mo 2 5]) (.keep ⟨[(2,0)],[],0⟩ .ret)))),[.t 2]⟩
abbrev g65_S:=Sys.on [] []
def cmp_isNaN_int64 (a_x:Int):Option (Bool):=some ((!decide (a_x = a_x)))
@[simp] def g65_O:Bool → TV × List Blk:=fun r=>((.bool r),[])
def g65_E (a:Int):List TV:=[(.int .i64 a)]
theorem g65_run (a_x:Int) :callFn (X g65_S) g65_tf (g65_E a_x) [] = (cmp_isNaN_int64 a_x).map g65_O:=by
  rw [callFn_eq]
  simp (maxSteps:=2000000) (maxDischargeDepth:=8) -implicitDefEqProofs [g65_tf,cmp_isNaN_int64,g65_E] <;> (try simp only [map_to_bind,g65_O])
def g65_r:Rule:=RlO g65_E (fun a=>cmp_isNaN_int64 a) g65_O
theorem g65_ok:RuleOk Tryz.prog 159 g65_r:=ok_rlo (S:=g65_S) (tf:=g65_tf) (SysOk.on trivial trivial) (trE_ok (ks:=[]) Tryz.func159 (by kernel_rfl)) fun a=>g65_run a
@[simp] theorem g65_app (y0):g65_r [(.int .i64 y0)] = (cmp_isNaN_int64 y0).map g65_O :=
  RlO_app (enc:=g65_E) (by intro a b h; simp [g65_E,Prod.ext_iff] at h ⊢; simp [h]) y0
/-! cmp.Compare[int64] -/
def g45_tf:TFn:=⟨(.seq (.ops [oo 4 (.mv (ki 0))]) (.trim [0,1] (.seq (.ops [mo 7 0,ca 8 159 [.t 7],mo 5 8]) (.trim [0,1,5] (.seq (.ops [mo 9 1,ca 10 159 [.t 9],mo 6 10]) (.trim [0,1,5,6] (.seq (.seq (.ops [mo 11 5]) (.trim [0,1,6,11] (.cond (.t 11) (.seq (.seq (.ops [mo 12 6]) (.trim [12] (.cond (.t 12) (.seq (.ops [oo 4 (.mv (ki 0))]) (.keep ⟨[(4,0)],[],0⟩ .ret)) .skip))) (.trim [] (.seq (.ops [oo 4 (.mv (ki (-1)))]) (.keep ⟨[(4,0)],[],0⟩ .ret)))) .skip))) (.trim [0,1,6] (.seq (.seq (.ops [mo 13 6]) (.trim [0,1,13] (.cond (.t 13) (.seq (.ops [oo 4 (.mv (ki 1))]) (.keep ⟨[(4,0)],[],0⟩ .ret)) .skip))) (.trim [0,1] (.seq (.seq (.ops [mo 14 0,mo 15 1,bn 16 .lss (.t 14) (.t 15)]) (.trim [0,1,16] (.cond (.t 16) (.seq (.ops [oo 4 (.mv (ki (-1)))]) (.keep ⟨[(4,0)],[],0⟩ .ret)) .skip))) (.trim [0,1] (.seq (.seq (.ops [mo 17 0,mo 18 1,bn 19 .gtr (.t 17) (.t 18)]) (.trim [19] (.cond (.t 19) (.seq (.ops [oo 4 (.mv (ki 1))]) (.keep ⟨[(4,0)],[],0⟩ .ret)) .skip))) (.trim [] (.seq (.ops [oo 4 (.mv (ki 0))]) (.keep ⟨[(4,0)],[],0⟩ .ret)))))))))))))))),[.t 4]⟩
abbrev g45_S:=Sys.on [(159,g65_r)] []
def cmp_Compare_int64 (a_x:Int) (a_y:Int):Option (Int):=(cmp_isNaN_int64 a_x).bind fun r1=>(cmp_isNaN_int64 a_y).bind fun r2=>if r1 = true then if r2 = true then some 0 else some ((-1)) else if r2 = true then some 1 else if a_x < a_y then some ((-1)) else if a_x > a_y then some 1 else some 0
@[simp] def g45_O:Int → TV × List Blk:=fun r=>((.int .i64 r),[])
def g45_E (a:Int × Int):List TV:=[(.int .i64 a.1),(.int .i64 a.2)]
theorem g45_run (a_x:Int) (a_y:Int) :callFn (X g45_S) g45_tf (g45_E (a_x,a_y)) [] = (cmp_Compare_int64 a_x a_y).map g45_O:=by
  rw [callFn_eq]
  simp (maxSteps:=2000000) (maxDischargeDepth:=8) -implicitDefEqProofs [g45_tf,cmp_Compare_int64,g45_E] <;> (try simp only [map_to_bind,g45_O])
def g45_r:Rule:=RlO g45_E (fun a=>cmp_Compare_int64 a.1 a.2) g45_O
theorem g45_ok:RuleOk Tryz.prog 148 g45_r:=ok_rlo (S:=g45_S) (tf:=g45_tf) (SysOk.on ⟨g65_ok,trivial⟩ trivial) (trE_ok (ks:=[]) Tryz.func148 (by kernel_rfl)) fun a=>g45_run a.1 a.2
@[simp] theorem g45_app (y0 y1):g45_r [(.int .i64 y0),(.int .i64 y1)] = (cmp_Compare_int64 y0 y1).map g45_O :=
  RlO_app (enc:=g45_E) (by intro a b h; simp [g45_E,Prod.ext_iff] at h ⊢; simp [h]) (y0,y1)
/-! impl.pageAt.1 -/
def g78_tf:TFn:=⟨(.seq (.ops [bx 2 0,oo 4 (.mv (ki 0))]) (.trim [1,2] (.seq (.ops [fa 5 0 2,ld 6 5,mo 7 1,ca 8 148 [.t 6,.t 7],mo 4 8]) (.keep ⟨[(4,0)],[],0⟩ .ret)))),[.t 4]⟩
abbrev g78_S:=Sys.on [(148,g45_r)] []
def impl_pageAt_c1 (a_p:Int × Str) (a_block:Int):Option (Int):=(cmp_Compare_int64 a_p.1 a_block).bind fun r1=>some r1
@[simp] def g78_O:Int → TV × List Blk:=fun r=>((.int .i64 r),[])
def g78_E (a:(Int × Str) × Int):List TV:=[(.agg [(.int .i64 a.1.1),(.str a.1.2)]),(.int .i64 a.2)]
theorem g78_run (a_p:Int × Str) (a_block:Int) :callFn (X g78_S) g78_tf (g78_E (a_p,a_block)) [] = (impl_pageAt_c1 a_p a_block).map g78_O:=by
  rw [callFn_eq]
  simp (maxSteps:=2000000) (maxDischargeDepth:=8) -implicitDefEqProofs [g78_tf,impl_pageAt_c1,g78_E] <;> (try simp only [map_to_bind,g78_O])
def g78_r:Rule:=RlO g78_E (fun a=>impl_pageAt_c1 a.1 a.2) g78_O
theorem g78_ok:RuleOk Tryz.prog 147 g78_r:=ok_rlo (S:=g78_S) (tf:=g78_tf) (SysOk.on ⟨g45_ok,trivial⟩ trivial) (trE_ok (ks:=[]) Tryz.func147 (by kernel_rfl)) fun a=>g78_run a.1 a.2
@[simp] theorem g78_app (y0 y1 y2):g78_r [(.agg [(.int .i64 y0),(.str y1)]),(.int .i64 y2)] = (impl_pageAt_c1 ((y0,y1)) y2).map g78_O :=
  RlO_app (enc:=g78_E) (by intro a b h; simp [g78_E,Prod.ext_iff] at h ⊢; simp [h]) ((y0,y1),y2)
/-! slices.BinarySearchFunc[[]impl.Page,impl.Page,int64] -/
def g1l1_cb:TC:=(.seq (.seq (.ops [mo 15 9,mo 16 10,bn 17 .lss (.t 15) (.t 16)]) (.trim [0,1,2,8,9,10,17] (.cond (.t 17) .skip (.keep ⟨[(0,0),(1,0),(2,0),(8,0),(9,0)],[],0⟩ (.exit 0))))) (.trim [0,1,2,8,9,10] (.block 1 (.seq (.ops [mo 18 9,mo 19 10,bn 20 .add (.t 18) (.t 19),oo 21 (.conv (.toInt .u64) (.t 20)),oo 22 (.bin .num .shr (.t 21) (.c (.int .u64 1))),oo 23 (.conv (.toInt .i64) (.t 22)),mo 11 23]) (.trim [0,1,2,8,9,10,11] (.seq (.ops [mo 24 2,mo 25 0,mo 26 11,ia 27 2 25 26,ln 28 2 27,mo 29 1,oo 30 (.callv (.t 24) [.t 28,.t 29]),bn 31 .lss (.t 30) (ki 0)]) (.trim [0,1,2,8,9,10,11,31] (.cond (.t 31) (.after (.ops [mo 32 11,bn 33 .add (.t 32) (ki 1),mo 9 33]) ⟨[(0,0),(1,0),(2,0),(8,0),(9,0),(10,0)],[],0⟩) (.after (.ops [mo 34 11,mo 10 34]) ⟨[(0,0),(1,0),(2,0),(8,0),(9,0),(10,0)],[],0⟩)))))))))
def g1l1_c:TC:=.loop [0,1,2,8,9,10] g1l1_cb
def g1_tf:TFn:=⟨(.seq (.ops [oo 6 (.mv (ki 0)),oo 7 (.mv (kb false))]) (.trim [0,1,2] (.seq (.ops [mo 12 0,le 13 12,mo 8 13]) (.trim [0,1,2,8] (.seq (.ops [mo 14 8,oo 9 (.mv (ki 0)),mo 10 14]) (.trim [0,1,2,8,9,10] (.seq (.block 0 (.keep ⟨[(0,0),(1,0),(2,0),(8,0),(9,0),(10,0)],[],0⟩ g1l1_c)) (.trim [0,1,2,8,9] (.seq (.after (.ops [mo 35 9,mo 36 9,mo 37 8,bn 38 .lss (.t 36) (.t 37),mo 39 38,⟨(some 40),(some (39,true)),(.mv (.t 2))⟩,⟨(some 41),(some (39,true)),(.mv (.t 0))⟩,⟨(some 42),(some (39,true)),(.mv (.t 9))⟩,⟨(some 43),(some (39,true)),(.iaddr 2 (.t 41) (.t 42))⟩,⟨(some 44),(some (39,true)),(.load (some 2) (.t 43))⟩,⟨(some 45),(some (39,true)),(.mv (.t 1))⟩,⟨(some 46),(some (39,true)),(.callv (.t 40) [.t 44,.t 45])⟩,⟨(some 47),(some (39,true)),(.bin .num .eql (.t 46) (ki 0))⟩,pk 48 (.t 39) (.t 47) (kb false),mo 6 35,mo 7 48]) ⟨[(6,0),(7,0)],[],0⟩) (.keep ⟨[(6,0),(7,0)],[],0⟩ .ret)))))))))),[.t 6,.t 7]⟩
abbrev g1_S:=Sys.on [(147,g78_r)] []
@[reducible,simp] def g1l1_F:((List (Int × Str)) × Int × Int × Int) → Out:=(fun t=>(.ext 0,[(0,(.vs (rows t.1))),(1,(.int .i64 t.2.1)),(2,(.fn 147 [] [])),(8,(.int .i64 t.2.2.1)),(9,(.int .i64 t.2.2.2))],[]))
def slices_BinarySearchFunc_impl_Page_impl_Page_int64__pageAt_c1_l1_b (v1:List (Int × Str)) (v2:Int) (v3:Int) (v4:Int) (v5:Int):Option ((Int × Int) ⊕ ((List (Int × Str)) × Int × Int × Int)):=if v4 < v5 then if 0 ≤ (IntKind.i64.wrap ((shrV .u64 ((IntKind.u64.wrap ((IntKind.i64.wrap (v4 + v5))))) 1))) then (v1[((IntKind.i64.wrap ((shrV .u64 ((IntKind.u64.wrap ((IntKind.i64.wrap (v4 + v5))))) 1)))).toNat]?).bind fun x6=>(impl_pageAt_c1 x6 v2).bind fun r7=>if r7 < 0 then some (.inl ((IntKind.i64.wrap ((IntKind.i64.wrap ((shrV .u64 ((IntKind.u64.wrap ((IntKind.i64.wrap (v4 + v5))))) 1))) + 1)),v5)) else some (.inl (v4,(IntKind.i64.wrap ((shrV .u64 ((IntKind.u64.wrap ((IntKind.i64.wrap (v4 + v5))))) 1))))) else none else some (.inr (v1,v2,v3,v4))
theorem g1l1_b_eq  (v1:List (Int × Str)) (v2:Int) (v3:Int) (v4:Int) (v5:Int):X g1_S g1l1_cb (keepEnv [0,1,2,8,9,10] [(0,(.vs (rows v1))),(1,(.int .i64 v2)),(2,(.fn 147 [] [])),(8,(.int .i64 v3)),(9,(.int .i64 v4)),(10,(.int .i64 v5))]) [] = (slices_BinarySearchFunc_impl_Page_impl_Page_int64__pageAt_c1_l1_b v1 v2 v3 v4 v5).map (Sum.elim (fun s=>(TX.nrm,[(0,(.vs (rows v1))),(1,(.int .i64 v2)),(2,(.fn 147 [] [])),(8,(.int .i64 v3)),(9,(.int .i64 s.1)),(10,(.int .i64 s.2))],[])) g1l1_F):=by
  simp (maxSteps:=2000000) (maxDischargeDepth:=8) -implicitDefEqProofs [g1l1_cb,slices_BinarySearchFunc_impl_Page_impl_Page_int64__pageAt_c1_l1_b] <;> (try simp only [map_to_bind,g1l1_F])
def slices_BinarySearchFunc_impl_Page_impl_Page_int64__pageAt_c1_l1 (v1:List (Int × Str)) (v2:Int) (v3:Int) (s:Int × Int):Option ((List (Int × Str)) × Int × Int × Int):=loopO (fun s=>slices_BinarySearchFunc_impl_Page_impl_Page_int64__pageAt_c1_l1_b v1 v2 v3 s.1 s.2) s
@[simp] theorem g1l1_eq (y0 y1 y2 y3 y4):X g1_S g1l1_c [(0,(.vs (rows y0))),(1,(.int .i64 y1)),(2,(.fn 147 [] [])),(8,(.int .i64 y2)),(9,(.int .i64 y3)),(10,(.int .i64 y4))] [] = (slices_BinarySearchFunc_impl_Page_impl_Page_int64__pageAt_c1_l1 y0 y1 y2 (y3,y4)).map g1l1_F:=by
  exact loop_X _ _ _ _ (by intro r; first | (simp; done) | (rcases r with r | r <;> simp; done) | (rcases r with r | r | r <;> simp; done) | (rcases r with r | r | r | r <;> simp)) (fun s=>g1l1_b_eq  y0 y1 y2 s.1 s.2) (y3,y4)
def slices_BinarySearchFunc_impl_Page_impl_Page_int64__pageAt_c1 (a_x:List (Int × Str)) (a_target:Int):Option (Int × Bool):=(slices_BinarySearchFunc_impl_Page_impl_Page_int64__pageAt_c1_l1 a_x a_target ((a_x.length:Int)) ((0,(a_x.length:Int)))).bind fun r8=>if r8.2.2.2 < r8.2.2.1 then if 0 ≤ r8.2.2.2 then (r8.1[(r8.2.2.2).toNat]?).bind fun x9=>(impl_pageAt_c1 x9 r8.2.1).bind fun r10=>some (r8.2.2.2,(decide (r10 = 0))) else none else some (r8.2.2.2,false)
@[simp] def g1_O:(Int × Bool) → TV × List Blk:=fun r=>((.tup [(.int .i64 r.1),(.bool r.2)]),[])
def g1_E (a:(List (Int × Str)) × Int):List TV:=[(.vs (rows a.1)),(.int .i64 a.2),(.fn 147 [] [])]
theorem g1_run (a_x:List (Int × Str)) (a_target:Int) :callFn (X g1_S) g1_tf (g1_E (a_x,a_target)) [] = (slices_BinarySearchFunc_impl_Page_impl_Page_int64__pageAt_c1 a_x a_target).map g1_O:=by
  rw [callFn_eq]
  simp (maxSteps:=2000000) (maxDischargeDepth:=8) -implicitDefEqProofs [g1_tf,slices_BinarySearchFunc_impl_Page_impl_Page_int64__pageAt_c1,g1_E] <;> (try simp only [map_to_bind,g1_O])
def g1_r:Rule:=RlO g1_E (fun a=>slices_BinarySearchFunc_impl_Page_impl_Page_int64__pageAt_c1 a.1 a.2) g1_O
theorem g1_ok:RuleOk Tryz.prog 146 g1_r:=ok_rlo (S:=g1_S) (tf:=g1_tf) (SysOk.on ⟨g78_ok,trivial⟩ trivial) (trE_ok (ks:=[[0,1,2,8,9,10]]) Tryz.func146 (by kernel_rfl)) fun a=>g1_run a.1 a.2
@[simp] theorem g1_app (y0 y1):g1_r [(.vs (rows y0)),(.int .i64 y1),(.fn 147 [] [])] = (slices_BinarySearchFunc_impl_Page_impl_Page_int64__pageAt_c1 y0 y1).map g1_O :=
  RlO_app (enc:=g1_E) (by intro a b h; simp [g1_E,Prod.ext_iff] at h ⊢; simp [h]) (y0,y1)
/-! impl.pageAt -/
def g133_tf:TFn:=⟨(.seq (.ops [oo 4 (.mv (ki 0)),oo 5 (.mv (kb false))]) (.trim [0,1] (.seq (.ops [mo 6 0,mo 7 1,oo 8 (.call 146 [.t 6,.t 7,(.c (.fn 147 [] []))]),oo 9 (.ext (.t 8) 0),oo 10 (.ext (.t 8) 1),mo 4 9,mo 5 10]) (.keep ⟨[(4,0),(5,0)],[],0⟩ .ret)))),[.t 4,.t 5]⟩
abbrev g133_S:=Sys.on [(146,g1_r)] []
def impl_pageAt (a_list:List (Int × Str)) (a_block:Int):Option (Int × Bool):=(slices_BinarySearchFunc_impl_Page_impl_Page_int64__pageAt_c1 a_list a_block).bind fun r1=>some (r1.1,r1.2)
@[simp] def g133_O:(Int × Bool) → TV × List Blk:=fun r=>((.tup [(.int .i64 r.1),(.bool r.2)]),[])
def g133_E (a:(List (Int × Str)) × Int):List TV:=[(.vs (rows a.1)),(.int .i64 a.2)]
theorem g133_run (a_list:List (Int × Str)) (a_block:Int) :callFn (X g133_S) g133_tf (g133_E (a_list,a_block)) [] = (impl_pageAt a_list a_block).map g133_O:=by
  rw [callFn_eq]
  simp (maxSteps:=2000000) (maxDischargeDepth:=8) -implicitDefEqProofs [g133_tf,impl_pageAt,g133_E] <;> (try simp only [map_to_bind,g133_O])
def g133_r:Rule:=RlO g133_E (fun a=>impl_pageAt a.1 a.2) g133_O
theorem g133_ok:RuleOk Tryz.prog 124 g133_r:=ok_rlo (S:=g133_S) (tf:=g133_tf) (SysOk.on ⟨g1_ok,trivial⟩ trivial) (trE_ok (ks:=[]) Tryz.func124 (by kernel_rfl)) fun a=>g133_run a.1 a.2
@[simp] theorem g133_app (y0 y1):g133_r [(.vs (rows y0)),(.int .i64 y1)] = (impl_pageAt y0 y1).map g133_O :=
  RlO_app (enc:=g133_E) (by intro a b h; simp [g133_E,Prod.ext_iff] at h ⊢; simp [h]) (y0,y1)
/-! (impl.Disk).read -/
def impl_Disk_read (d:K0) (k:Int):Option Str:=readD d k
noncomputable def g79_r:Rule:=read_r
theorem g79_ok:RuleOk Tryz.prog 165 g79_r:=read_ok
@[simp] theorem g79_app (y0 y1 y2 y3 y4):g79_r [.agg [.vs (rows y0),.vs (rows y1),.int .i64 y2,.bool y3],.int .i64 y4] = (impl_Disk_read (y0,y1,y2,y3) y4).map (fun r=>(.str r,[])):=read_app y0 y1 y2 y3 y4
/-! (*impl.Pager).committed -/
def g25_tf:TFn:=⟨(.seq (.ops [oo 4 (.mv (.c (.str [])))]) (.trim [0,1] (.seq (.seq (.ops [mo 8 0,nk 9 8,fa 10 10 9,ld 11 10,mo 12 1,ca 13 124 [.t 11,.t 12],mo 7 13,oo 14 (.ext (.t 7) 0),oo 15 (.ext (.t 7) 1),mo 5 14,mo 6 15]) (.trim [0,1,5,6] (.seq (.ops [mo 16 6]) (.trim [0,1,5,16] (.cond (.t 16) (.seq (.ops [mo 17 0,nk 18 17,fa 19 10 18,ld 20 19,mo 21 5,ia 22 2 20 21,fa 23 1 22,ld 24 23,mo 4 24]) (.keep ⟨[(4,0)],[],0⟩ .ret)) .skip))))) (.trim [0,1] (.seq (.ops [mo 25 0,nk 26 25,fa 27 0 26,ln 28 4 27,mo 29 1,ca 30 165 [.t 28,.t 29],mo 4 30]) (.keep ⟨[(4,0)],[],0⟩ .ret)))))),[.t 4]⟩
abbrev g25_S:=Sys.on [(124,g133_r),(165,g79_r)] []
def impl_Pager_committed (a_p:K1) (a_k:Int):Option (Str):=(impl_pageAt a_p.2.2.2.2.1 a_k).bind fun r1=>if r1.2 = true then if 0 ≤ r1.1 then (a_p.2.2.2.2.1[(r1.1).toNat]?).bind fun x2=>some x2.2 else none else (impl_Disk_read a_p.1 a_k).bind fun r3=>some r3
@[simp] def g25_O:Str → TV × List Blk:=fun r=>((.str r),[])
def g25_E (a:K1 × Int × List TV):List TV:=[(.vp ((.vs (rows a.1.1.1))::(.vs (rows a.1.1.2.1))::(.int .i64 a.1.1.2.2.1)::(.bool a.1.1.2.2.2)::(.int .i64 a.1.2.1.1)::(.int .i64 a.1.2.1.2.1)::(.int .i64 a.1.2.1.2.2.1)::(.int .i64 a.1.2.1.2.2.2)::(.int .i64 a.1.2.2.1)::(.int .i64 a.1.2.2.2.1)::(.vs (rows a.1.2.2.2.2.1))::(.vs (rows a.1.2.2.2.2.2))::a.2.2)),(.int .i64 a.2.1)]
theorem g25_run (a_p:K1) (a_k:Int) (q0:List TV):callFn (X g25_S) g25_tf (g25_E (a_p,a_k,q0)) [] = (impl_Pager_committed a_p a_k).map g25_O:=by
  rw [callFn_eq]
  simp (maxSteps:=2000000) (maxDischargeDepth:=8) -implicitDefEqProofs [g25_tf,impl_Pager_committed,g25_E] <;> (try simp only [map_to_bind,g25_O])
def g25_r:Rule:=RlO g25_E (fun a=>impl_Pager_committed a.1 a.2.1) g25_O
theorem g25_ok:RuleOk Tryz.prog 158 g25_r:=ok_rlo (S:=g25_S) (tf:=g25_tf) (SysOk.on ⟨g133_ok,g79_ok,trivial⟩ trivial) (trE_ok (ks:=[]) Tryz.func158 (by kernel_rfl)) fun a=>g25_run a.1 a.2.1 a.2.2
@[simp] theorem g25_app (y0 y1 y2 y3 y4 y5 y6 y7 y8 y9 y10 y11 y12)(q0:List TV):g25_r [(.vp ((.vs (rows y0))::(.vs (rows y1))::(.int .i64 y2)::(.bool y3)::(.int .i64 y4)::(.int .i64 y5)::(.int .i64 y6)::(.int .i64 y7)::(.int .i64 y8)::(.int .i64 y9)::(.vs (rows y10))::(.vs (rows y11))::q0)),(.int .i64 y12)] = (impl_Pager_committed (((y0,y1,y2,y3),(y4,y5,y6,y7),y8,y9,y10,y11)) y12).map g25_O :=
  RlO_app (enc:=g25_E) (by intro a b h; simp [g25_E,Prod.ext_iff] at h ⊢; simp [h]) (((y0,y1,y2,y3),(y4,y5,y6,y7),y8,y9,y10,y11),y12,q0)
/-! (*impl.Pager).get -/
def g80_tf:TFn:=⟨(.seq (.ops [oo 4 (.mv (.c (.str [])))]) (.trim [0,1] (.seq (.seq (.ops [mo 8 0,nk 9 8,fa 10 11 9,ld 11 10,mo 12 1,ca 13 124 [.t 11,.t 12],mo 7 13,oo 14 (.ext (.t 7) 0),oo 15 (.ext (.t 7) 1),mo 5 14,mo 6 15]) (.trim [0,1,5,6] (.seq (.ops [mo 16 6]) (.trim [0,1,5,16] (.cond (.t 16) (.seq (.ops [mo 17 0,nk 18 17,fa 19 11 18,ld 20 19,mo 21 5,ia 22 2 20 21,fa 23 1 22,ld 24 23,mo 4 24]) (.keep ⟨[(4,0)],[],0⟩ .ret)) .skip))))) (.trim [0,1] (.seq (.ops [mo 25 0,mo 26 1,ca 27 158 [.t 25,.t 26],mo 4 27]) (.keep ⟨[(4,0)],[],0⟩ .ret)))))),[.t 4]⟩
abbrev g80_S:=Sys.on [(124,g133_r),(158,g25_r)] []
def impl_Pager_get (a_p:K1) (a_k:Int):Option (Str):=(impl_pageAt a_p.2.2.2.2.2 a_k).bind fun r1=>if r1.2 = true then if 0 ≤ r1.1 then (a_p.2.2.2.2.2[(r1.1).toNat]?).bind fun x2=>some x2.2 else none else (impl_Pager_committed a_p a_k).bind fun r3=>some r3
@[simp] def g80_O:Str → TV × List Blk:=fun r=>((.str r),[])
def g80_E (a:K1 × Int × List TV):List TV:=[(.vp ((.vs (rows a.1.1.1))::(.vs (rows a.1.1.2.1))::(.int .i64 a.1.1.2.2.1)::(.bool a.1.1.2.2.2)::(.int .i64 a.1.2.1.1)::(.int .i64 a.1.2.1.2.1)::(.int .i64 a.1.2.1.2.2.1)::(.int .i64 a.1.2.1.2.2.2)::(.int .i64 a.1.2.2.1)::(.int .i64 a.1.2.2.2.1)::(.vs (rows a.1.2.2.2.2.1))::(.vs (rows a.1.2.2.2.2.2))::a.2.2)),(.int .i64 a.2.1)]
theorem g80_run (a_p:K1) (a_k:Int) (q0:List TV):callFn (X g80_S) g80_tf (g80_E (a_p,a_k,q0)) [] = (impl_Pager_get a_p a_k).map g80_O:=by
  rw [callFn_eq]
  simp (maxSteps:=2000000) (maxDischargeDepth:=8) -implicitDefEqProofs [g80_tf,impl_Pager_get,g80_E] <;> (try simp only [map_to_bind,g80_O])
def g80_r:Rule:=RlO g80_E (fun a=>impl_Pager_get a.1 a.2.1) g80_O
theorem g80_ok:RuleOk Tryz.prog 145 g80_r:=ok_rlo (S:=g80_S) (tf:=g80_tf) (SysOk.on ⟨g133_ok,g25_ok,trivial⟩ trivial) (trE_ok (ks:=[]) Tryz.func145 (by kernel_rfl)) fun a=>g80_run a.1 a.2.1 a.2.2
@[simp] theorem g80_app (y0 y1 y2 y3 y4 y5 y6 y7 y8 y9 y10 y11 y12)(q0:List TV):g80_r [(.vp ((.vs (rows y0))::(.vs (rows y1))::(.int .i64 y2)::(.bool y3)::(.int .i64 y4)::(.int .i64 y5)::(.int .i64 y6)::(.int .i64 y7)::(.int .i64 y8)::(.int .i64 y9)::(.vs (rows y10))::(.vs (rows y11))::q0)),(.int .i64 y12)] = (impl_Pager_get (((y0,y1,y2,y3),(y4,y5,y6,y7),y8,y9,y10,y11)) y12).map g80_O :=
  RlO_app (enc:=g80_E) (by intro a b h; simp [g80_E,Prod.ext_iff] at h ⊢; simp [h]) (((y0,y1,y2,y3),(y4,y5,y6,y7),y8,y9,y10,y11),y12,q0)
/-! (*impl.Pager).allocated -/
def g26_tf:TFn:=⟨(.seq (.ops [oo 4 (.mv (kb false))]) (.trim [0,1] (.seq (.after (.ops [mo 5 0,mo 6 1,ca 7 157 [.t 5,.t 6,ki 1],mo 8 7,⟨(some 9),(some (8,true)),(.mv (.t 0))⟩,⟨(some 10),(some (8,true)),(.mv (.t 0))⟩,⟨(some 11),(some (8,true)),(.call 143 [.t 10])⟩,⟨(some 12),(some (8,true)),(.call 145 [.t 9,.t 11])⟩,⟨(some 13),(some (8,true)),(.mv (.t 1))⟩,⟨(some 14),(some (8,true)),(.bin .num .quo (.t 13) (ki 8))⟩,⟨(some 15),(some (8,true)),(.bin .num .add (ki 4) (.t 14))⟩,⟨(some 16),(some (8,true)),(.index (.t 12) (.t 15))⟩,⟨(some 17),(some (8,true)),(.mv (.t 1))⟩,⟨(some 18),(some (8,true)),(.bin .num .rem (.t 17) (ki 8))⟩,⟨(some 19),(some (8,true)),(.bin .num .shr (.t 16) (.t 18))⟩,⟨(some 20),(some (8,true)),(.bin .num .and (.t 19) (.c (.int .u8 1)))⟩,⟨(some 21),(some (8,true)),(.bin .num .eql (.t 20) (.c (.int .u8 1)))⟩,pk 22 (.t 8) (.t 21) (kb false),mo 4 22]) ⟨[(4,0)],[],0⟩) (.keep ⟨[(4,0)],[],0⟩ .ret)))),[.t 4]⟩
abbrev g26_S:=Sys.on [(157,g44_r),(143,g64_r),(145,g80_r)] []
def impl_Pager_allocated (a_p:K1) (a_k:Int):Option (Bool):=(impl_Pager_isData a_p a_k 1).bind fun r1=>if r1 = true then (impl_Pager_area a_p).bind fun r2=>(impl_Pager_get a_p r2).bind fun r3=>if 0 ≤ (IntKind.i64.wrap (4 + (IntKind.i64.wrap (Int.tdiv a_k 8)))) then (r3[((IntKind.i64.wrap (4 + (IntKind.i64.wrap (Int.tdiv a_k 8))))).toNat]?).bind fun (b4:UInt8)=>if (Int.tmod a_k 8) < 0 then none else some ((decide ((bitV .and .u8 ((shrV .u8 ((b4.toNat:Int)) ((Int.tmod a_k 8)))) 1) = 1))) else none else some false
@[simp] def g26_O:Bool → TV × List Blk:=fun r=>((.bool r),[])
def g26_E (a:K1 × Int × List TV):List TV:=[(.vp ((.vs (rows a.1.1.1))::(.vs (rows a.1.1.2.1))::(.int .i64 a.1.1.2.2.1)::(.bool a.1.1.2.2.2)::(.int .i64 a.1.2.1.1)::(.int .i64 a.1.2.1.2.1)::(.int .i64 a.1.2.1.2.2.1)::(.int .i64 a.1.2.1.2.2.2)::(.int .i64 a.1.2.2.1)::(.int .i64 a.1.2.2.2.1)::(.vs (rows a.1.2.2.2.2.1))::(.vs (rows a.1.2.2.2.2.2))::a.2.2)),(.int .i64 a.2.1)]
theorem g26_run (a_p:K1) (a_k:Int) (q0:List TV):callFn (X g26_S) g26_tf (g26_E (a_p,a_k,q0)) [] = (impl_Pager_allocated a_p a_k).map g26_O:=by
  rw [callFn_eq]
  simp (maxSteps:=2000000) (maxDischargeDepth:=8) -implicitDefEqProofs [g26_tf,impl_Pager_allocated,g26_E] <;> (try simp only [map_to_bind,g26_O])
def g26_r:Rule:=RlO g26_E (fun a=>impl_Pager_allocated a.1 a.2.1) g26_O
theorem g26_ok:RuleOk Tryz.prog 144 g26_r:=ok_rlo (S:=g26_S) (tf:=g26_tf) (SysOk.on ⟨g44_ok,g64_ok,g80_ok,trivial⟩ trivial) (trE_ok (ks:=[]) Tryz.func144 (by kernel_rfl)) fun a=>g26_run a.1 a.2.1 a.2.2
@[simp] theorem g26_app (y0 y1 y2 y3 y4 y5 y6 y7 y8 y9 y10 y11 y12)(q0:List TV):g26_r [(.vp ((.vs (rows y0))::(.vs (rows y1))::(.int .i64 y2)::(.bool y3)::(.int .i64 y4)::(.int .i64 y5)::(.int .i64 y6)::(.int .i64 y7)::(.int .i64 y8)::(.int .i64 y9)::(.vs (rows y10))::(.vs (rows y11))::q0)),(.int .i64 y12)] = (impl_Pager_allocated (((y0,y1,y2,y3),(y4,y5,y6,y7),y8,y9,y10,y11)) y12).map g26_O :=
  RlO_app (enc:=g26_E) (by intro a b h; simp [g26_E,Prod.ext_iff] at h ⊢; simp [h]) (((y0,y1,y2,y3),(y4,y5,y6,y7),y8,y9,y10,y11),y12,q0)
/-! (*impl.Pager).freeRuns -/
def g29p2_c:TC:=(.seq (.ops [mo 40 4,mo 39 40]) (.trim [0,3,4,5,39] (.cond (.t 39) (.after (.ops [mo 41 3,mo 42 5,oo 43 (.build [(.int .i64 0),(.int .i64 0)] [(0,1,(.t 42)),(1,1,(ki 1))]),oo 44 (.bslice [(.int .i64 0),(.int .i64 0)] 1 [(0,(.t 43))]),oo 45 (.append 169 2 16 (.t 41) (.t 44)),mo 3 45]) ⟨[(0,0),(3,1),(4,0),(5,0)],[(2,1)],0⟩) (.keep ⟨[(0,0),(3,1),(4,0),(5,0)],[(0,1)],0⟩ .skip))))
def g29l1_cb:TC:=(.seq (.seq (.ops [mo 10 5,mo 11 0,nk 12 11,fa 13 4 12,fa 14 0 13,ld 15 14,bn 16 .lss (.t 10) (.t 15)]) (.trim [0,3,4,5,16] (.cond (.t 16) .skip (.keep ⟨[(3,1)],[(0,1)],0⟩ (.exit 0))))) (.trim [0,3,4,5] (.seq (.block 1 (.seq (.ops [mo 19 4,mo 6 19]) (.trim [0,3,5,6] (.seq (.ops [mo 20 0,mo 21 5,ca 22 144 [.t 20,.t 21],nt 23 22,mo 4 23]) (.trim [0,3,4,5,6] (.block 2 (.seq (.ops [mo 25 4,mo 26 25,⟨(some 27),(some (26,true)),(.mv (.t 6))⟩,pk 28 (.t 26) (.t 27) (kb false),mo 24 28]) (.trim [0,3,4,5,24] (.cond (.t 24) (.after (.ops [mo 29 3,mo 30 3,le 31 30,bn 32 .sub (.t 31) (ki 1),ia 33 2 29 32,fa 34 1 33,ld 35 34,bn 36 .add (.t 35) (ki 1),ia 37 2 29 32,fa 38 1 37,⟨none,none,(.store 1 (.t 38) (.t 36))⟩]) ⟨[(0,0),(3,1),(4,0),(5,0)],[(0,1)],0⟩) (.keep ⟨[(0,0),(3,1),(4,0),(5,0)],[(0,1)],0⟩ g29p2_c)))))))))) (.trim [0,3,4,5] (.after (.ops [mo 17 5,bn 18 .add (.t 17) (ki 1),mo 5 18]) ⟨[(0,0),(3,1),(4,0),(5,0)],[(0,1)],0⟩)))))
def g29l1_c:TC:=.loop [0,3,4,5] g29l1_cb
def g29_tf:TFn:=⟨(.seq (.ops [oo 2 (.mv (.c .nils))]) (.trim [0] (.seq (.ops [oo 3 (.mv (.c .nils))]) (.trim [0,3] (.seq (.ops [oo 4 (.mv (kb false))]) (.trim [0,3,4] (.seq (.seq (.ops [mo 7 0,ca 8 143 [.t 7],bn 9 .add (.t 8) (ki 1),mo 5 9]) (.trim [0,3,4,5] (.block 0 (.keep ⟨[(0,0),(3,1),(4,0),(5,0)],[(1000,1)],0⟩ g29l1_c)))) (.trim [3] (.seq (.ops [mo 46 3,mo 2 46]) (.keep ⟨[(2,1)],[(0,1)],0⟩ .ret)))))))))),[.t 2]⟩
abbrev g29_S:=Sys.on [(143,g64_r),(144,g26_r)] []
def impl_Pager_freeRuns_p2 (v20:List Str) (v21:List (Int × Str)) (v22:Int) (v23:Bool) (v24:Int) (v25:Int) (v26:Int) (v27:Int) (v28:Int) (v29:Int) (v30:List (Int × Str)) (v31:List (Int × Str)) (v32:List (Int × Int)) (v33:Bool) (v34:Int):Option (List Str × (List (Int × Str)) × Int × Bool × Int × Int × Int × Int × Int × Int × (List (Int × Str)) × (List (Int × Str)) × (List (Int × Int)) × Bool × Int):=if v33 = true then (appL 16 v32 ((lit [(v34,1)]:List (Int × Int)))).bind fun l35=>some ((v20,v21,v22,v23,v24,v25,v26,v27,v28,v29,v30,v31,l35,v33,v34)) else some ((v20,v21,v22,v23,v24,v25,v26,v27,v28,v29,v30,v31,v32,v33,v34))
@[simp] theorem g29p2_eq (q0:List TV)(y0 y1 y2 y3 y4 y5 y6 y7 y8 y9 y10 y11)(y12:List (Int × Int))(y13 y14){n1:Nat}(h1:n1 = y12.length):X g29_S g29p2_c [(0,(.vp ((.vs (rows y0))::(.vs (rows y1))::(.int .i64 y2)::(.bool y3)::(.int .i64 y4)::(.int .i64 y5)::(.int .i64 y6)::(.int .i64 y7)::(.int .i64 y8)::(.int .i64 y9)::(.vs (rows y10))::(.vs (rows y11))::q0))),(3,(ow 0 n1)),(4,(.bool y13)),(5,(.int .i64 y14))] [(ob 2 y12)] = (impl_Pager_freeRuns_p2 y0 y1 y2 y3 y4 y5 y6 y7 y8 y9 y10 y11 y12 y13 y14).map (fun t=>(.nrm,[(0,(.vp ((.vs (rows t.1))::(.vs (rows t.2.1))::(.int .i64 t.2.2.1)::(.bool t.2.2.2.1)::(.int .i64 t.2.2.2.2.1)::(.int .i64 t.2.2.2.2.2.1)::(.int .i64 t.2.2.2.2.2.2.1)::(.int .i64 t.2.2.2.2.2.2.2.1)::(.int .i64 t.2.2.2.2.2.2.2.2.1)::(.int .i64 t.2.2.2.2.2.2.2.2.2.1)::(.vs (rows t.2.2.2.2.2.2.2.2.2.2.1))::(.vs (rows t.2.2.2.2.2.2.2.2.2.2.2.1))::q0))),(3,(ow 0 t.2.2.2.2.2.2.2.2.2.2.2.2.1.length)),(4,(.bool t.2.2.2.2.2.2.2.2.2.2.2.2.2.1)),(5,(.int .i64 t.2.2.2.2.2.2.2.2.2.2.2.2.2.2))],[(ob 2 t.2.2.2.2.2.2.2.2.2.2.2.2.1)])):=by
  subst h1
  simp (maxSteps:=2000000) (maxDischargeDepth:=8) -implicitDefEqProofs [g29p2_c,impl_Pager_freeRuns_p2,bslV_lit (α:=Int × Int) (zs:=[(.int .i64 0),(.int .i64 0)])] <;> (try simp only [map_to_bind])
@[reducible,simp] def g29l1_F:((List (Int × Int))) → Out:=(fun t=>(.ext 0,[(3,(ow 0 t.length))],[(ob 2 t)]))
def impl_Pager_freeRuns_l1_b (v2:List Str) (v3:List (Int × Str)) (v4:Int) (v5:Bool) (v6:Int) (v7:Int) (v8:Int) (v9:Int) (v10:Int) (v11:Int) (v12:List (Int × Str)) (v13:List (Int × Str)) (v14:List (Int × Int)) (v15:Bool) (v16:Int):Option ((List Str × (List (Int × Str)) × Int × Bool × Int × Int × Int × Int × Int × Int × (List (Int × Str)) × (List (Int × Str)) × (List (Int × Int)) × Bool × Int) ⊕ ((List (Int × Int)))):=if v16 < v6 then (impl_Pager_allocated (((v2,v3,v4,v5),(v6,v7,v8,v9),v10,v11,v12,v13)) v16).bind fun r17=>if ¬(r17 = true) then if v15 = true then if 0 ≤ (IntKind.i64.wrap (((v14.length:Nat):Int) - 1)) ∧ (IntKind.i64.wrap (((v14.length:Nat):Int) - 1)) < ((v14.length:Nat):Int) then (v14[((IntKind.i64.wrap (((v14.length:Nat):Int) - 1))).toNat]?).bind fun x18=>if 0 ≤ (IntKind.i64.wrap (((v14.length:Nat):Int) - 1)) ∧ (IntKind.i64.wrap (((v14.length:Nat):Int) - 1)) < ((v14.length:Nat):Int) then (v14[((IntKind.i64.wrap (((v14.length:Nat):Int) - 1))).toNat]?).bind fun x19=>some (.inl (v2,v3,v4,v5,v6,v7,v8,v9,v10,v11,v12,v13,(v14.set ((IntKind.i64.wrap (((v14.length:Nat):Int) - 1))).toNat (x19.1,(IntKind.i64.wrap (x18.2 + 1)))),(!r17),(IntKind.i64.wrap (v16 + 1)))) else none else none else (impl_Pager_freeRuns_p2 v2 v3 v4 v5 v6 v7 v8 v9 v10 v11 v12 v13 v14 ((!r17)) v16).bind fun r36=>some (.inl (r36.1,r36.2.1,r36.2.2.1,r36.2.2.2.1,r36.2.2.2.2.1,r36.2.2.2.2.2.1,r36.2.2.2.2.2.2.1,r36.2.2.2.2.2.2.2.1,r36.2.2.2.2.2.2.2.2.1,r36.2.2.2.2.2.2.2.2.2.1,r36.2.2.2.2.2.2.2.2.2.2.1,r36.2.2.2.2.2.2.2.2.2.2.2.1,r36.2.2.2.2.2.2.2.2.2.2.2.2.1,r36.2.2.2.2.2.2.2.2.2.2.2.2.2.1,(IntKind.i64.wrap (r36.2.2.2.2.2.2.2.2.2.2.2.2.2.2 + 1)))) else (impl_Pager_freeRuns_p2 v2 v3 v4 v5 v6 v7 v8 v9 v10 v11 v12 v13 v14 ((!r17)) v16).bind fun r37=>some (.inl (r37.1,r37.2.1,r37.2.2.1,r37.2.2.2.1,r37.2.2.2.2.1,r37.2.2.2.2.2.1,r37.2.2.2.2.2.2.1,r37.2.2.2.2.2.2.2.1,r37.2.2.2.2.2.2.2.2.1,r37.2.2.2.2.2.2.2.2.2.1,r37.2.2.2.2.2.2.2.2.2.2.1,r37.2.2.2.2.2.2.2.2.2.2.2.1,r37.2.2.2.2.2.2.2.2.2.2.2.2.1,r37.2.2.2.2.2.2.2.2.2.2.2.2.2.1,(IntKind.i64.wrap (r37.2.2.2.2.2.2.2.2.2.2.2.2.2.2 + 1)))) else some (.inr v14)
theorem g29l1_b_eq (q0:List TV) (v2:List Str) (v3:List (Int × Str)) (v4:Int) (v5:Bool) (v6:Int) (v7:Int) (v8:Int) (v9:Int) (v10:Int) (v11:Int) (v12:List (Int × Str)) (v13:List (Int × Str)) (v14:List (Int × Int)) (v15:Bool) (v16:Int):X g29_S g29l1_cb (keepEnv [0,3,4,5] [(0,(.vp ((.vs (rows v2))::(.vs (rows v3))::(.int .i64 v4)::(.bool v5)::(.int .i64 v6)::(.int .i64 v7)::(.int .i64 v8)::(.int .i64 v9)::(.int .i64 v10)::(.int .i64 v11)::(.vs (rows v12))::(.vs (rows v13))::q0))),(3,(ow 0 v14.length)),(4,(.bool v15)),(5,(.int .i64 v16))]) [(ob 2 v14)] = (impl_Pager_freeRuns_l1_b v2 v3 v4 v5 v6 v7 v8 v9 v10 v11 v12 v13 v14 v15 v16).map (Sum.elim (fun s=>(TX.nrm,[(0,(.vp ((.vs (rows s.1))::(.vs (rows s.2.1))::(.int .i64 s.2.2.1)::(.bool s.2.2.2.1)::(.int .i64 s.2.2.2.2.1)::(.int .i64 s.2.2.2.2.2.1)::(.int .i64 s.2.2.2.2.2.2.1)::(.int .i64 s.2.2.2.2.2.2.2.1)::(.int .i64 s.2.2.2.2.2.2.2.2.1)::(.int .i64 s.2.2.2.2.2.2.2.2.2.1)::(.vs (rows s.2.2.2.2.2.2.2.2.2.2.1))::(.vs (rows s.2.2.2.2.2.2.2.2.2.2.2.1))::q0))),(3,(ow 0 s.2.2.2.2.2.2.2.2.2.2.2.2.1.length)),(4,(.bool s.2.2.2.2.2.2.2.2.2.2.2.2.2.1)),(5,(.int .i64 s.2.2.2.2.2.2.2.2.2.2.2.2.2.2))],[(ob 2 s.2.2.2.2.2.2.2.2.2.2.2.2.1)])) g29l1_F):=by
  simp (maxSteps:=2000000) (maxDischargeDepth:=8) -implicitDefEqProofs [g29l1_cb,impl_Pager_freeRuns_l1_b,bslV_lit (α:=Int × Int) (zs:=[(.int .i64 0),(.int .i64 0)])] <;> (try simp only [map_to_bind,g29l1_F])
def impl_Pager_freeRuns_l1  (s:List Str × (List (Int × Str)) × Int × Bool × Int × Int × Int × Int × Int × Int × (List (Int × Str)) × (List (Int × Str)) × (List (Int × Int)) × Bool × Int):Option ((List (Int × Int))):=loopO (fun s=>impl_Pager_freeRuns_l1_b  s.1 s.2.1 s.2.2.1 s.2.2.2.1 s.2.2.2.2.1 s.2.2.2.2.2.1 s.2.2.2.2.2.2.1 s.2.2.2.2.2.2.2.1 s.2.2.2.2.2.2.2.2.1 s.2.2.2.2.2.2.2.2.2.1 s.2.2.2.2.2.2.2.2.2.2.1 s.2.2.2.2.2.2.2.2.2.2.2.1 s.2.2.2.2.2.2.2.2.2.2.2.2.1 s.2.2.2.2.2.2.2.2.2.2.2.2.2.1 s.2.2.2.2.2.2.2.2.2.2.2.2.2.2) s
@[simp] theorem g29l1_eq (q0:List TV)(y0 y1 y2 y3 y4 y5 y6 y7 y8 y9 y10 y11)(y12:List (Int × Int))(y13 y14){n1:Nat}(h1:n1 = y12.length):X g29_S g29l1_c [(0,(.vp ((.vs (rows y0))::(.vs (rows y1))::(.int .i64 y2)::(.bool y3)::(.int .i64 y4)::(.int .i64 y5)::(.int .i64 y6)::(.int .i64 y7)::(.int .i64 y8)::(.int .i64 y9)::(.vs (rows y10))::(.vs (rows y11))::q0))),(3,(ow 0 n1)),(4,(.bool y13)),(5,(.int .i64 y14))] [(ob 2 y12)] = (impl_Pager_freeRuns_l1  (y0,y1,y2,y3,y4,y5,y6,y7,y8,y9,y10,y11,y12,y13,y14)).map g29l1_F:=by
  subst h1
  exact loop_X _ _ _ _ (by intro r; first | (simp; done) | (rcases r with r | r <;> simp; done) | (rcases r with r | r | r <;> simp; done) | (rcases r with r | r | r | r <;> simp)) (fun s=>g29l1_b_eq q0  s.1 s.2.1 s.2.2.1 s.2.2.2.1 s.2.2.2.2.1 s.2.2.2.2.2.1 s.2.2.2.2.2.2.1 s.2.2.2.2.2.2.2.1 s.2.2.2.2.2.2.2.2.1 s.2.2.2.2.2.2.2.2.2.1 s.2.2.2.2.2.2.2.2.2.2.1 s.2.2.2.2.2.2.2.2.2.2.2.1 s.2.2.2.2.2.2.2.2.2.2.2.2.1 s.2.2.2.2.2.2.2.2.2.2.2.2.2.1 s.2.2.2.2.2.2.2.2.2.2.2.2.2.2) (y0,y1,y2,y3,y4,y5,y6,y7,y8,y9,y10,y11,y12,y13,y14)
@[simp] theorem g29l1_eq_12 (q0:List TV)(y0 y1 y2 y3 y4 y5 y6 y7 y8 y9 y10 y11 y12 y13):X g29_S g29l1_c [(0,(.vp ((.vs (rows y0))::(.vs (rows y1))::(.int .i64 y2)::(.bool y3)::(.int .i64 y4)::(.int .i64 y5)::(.int .i64 y6)::(.int .i64 y7)::(.int .i64 y8)::(.int .i64 y9)::(.vs (rows y10))::(.vs (rows y11))::q0))),(3,.es),(4,(.bool y12)),(5,(.int .i64 y13))] [.dead] = (impl_Pager_freeRuns_l1  (y0,y1,y2,y3,y4,y5,y6,y7,y8,y9,y10,y11,([]:List (Int × Int)),y12,y13)).map g29l1_F :=
  g29l1_eq q0 y0 y1 y2 y3 y4 y5 y6 y7 y8 y9 y10 y11 ([]:List (Int × Int)) y12 y13 rfl
def impl_Pager_freeRuns (a_p:K1):Option ((List (Int × Int))):=(impl_Pager_area a_p).bind fun r1=>(impl_Pager_freeRuns_l1 ((a_p.1.1,a_p.1.2.1,a_p.1.2.2.1,a_p.1.2.2.2,a_p.2.1.1,a_p.2.1.2.1,a_p.2.1.2.2.1,a_p.2.1.2.2.2,a_p.2.2.1,a_p.2.2.2.1,a_p.2.2.2.2.1,a_p.2.2.2.2.2,([]:List (Int × Int)),false,(IntKind.i64.wrap (r1 + 1))))).bind fun r38=>some r38
@[simp] def g29_O:((List (Int × Int))) → TV × List Blk:=fun r=>((ow 0 r.length),[(ob 2 r)])
def g29_E (a:K1 × List TV):List TV:=[(.vp ((.vs (rows a.1.1.1))::(.vs (rows a.1.1.2.1))::(.int .i64 a.1.1.2.2.1)::(.bool a.1.1.2.2.2)::(.int .i64 a.1.2.1.1)::(.int .i64 a.1.2.1.2.1)::(.int .i64 a.1.2.1.2.2.1)::(.int .i64 a.1.2.1.2.2.2)::(.int .i64 a.1.2.2.1)::(.int .i64 a.1.2.2.2.1)::(.vs (rows a.1.2.2.2.2.1))::(.vs (rows a.1.2.2.2.2.2))::a.2))]
theorem g29_run (a_p:K1) (q0:List TV):callFn (X g29_S) g29_tf (g29_E (a_p,q0)) [] = (impl_Pager_freeRuns a_p).map g29_O:=by
  rw [callFn_eq]
  simp (maxSteps:=2000000) (maxDischargeDepth:=8) -implicitDefEqProofs [g29_tf,impl_Pager_freeRuns,g29_E,bslV_lit (α:=Int × Int) (zs:=[(.int .i64 0),(.int .i64 0)])] <;> (try simp only [map_to_bind,g29_O])
def g29_r:Rule:=RlO g29_E (fun a=>impl_Pager_freeRuns a.1) g29_O
theorem g29_ok:RuleOk Tryz.prog 122 g29_r:=ok_rlo (S:=g29_S) (tf:=g29_tf) (SysOk.on ⟨g64_ok,g26_ok,trivial⟩ trivial) (trE_ok (ks:=[[0,3,4,5]]) Tryz.func122 (by kernel_rfl)) fun a=>g29_run a.1 a.2
@[simp] theorem g29_app (y0 y1 y2 y3 y4 y5 y6 y7 y8 y9 y10 y11)(q0:List TV):g29_r [(.vp ((.vs (rows y0))::(.vs (rows y1))::(.int .i64 y2)::(.bool y3)::(.int .i64 y4)::(.int .i64 y5)::(.int .i64 y6)::(.int .i64 y7)::(.int .i64 y8)::(.int .i64 y9)::(.vs (rows y10))::(.vs (rows y11))::q0))] = (impl_Pager_freeRuns (((y0,y1,y2,y3),(y4,y5,y6,y7),y8,y9,y10,y11))).map g29_O :=
  RlO_app (enc:=g29_E) (by intro a b h; simp [g29_E,Prod.ext_iff] at h ⊢; simp [h]) (((y0,y1,y2,y3),(y4,y5,y6,y7),y8,y9,y10,y11),q0)
/-! slices.Insert[[]impl.Page,impl.Page] -/
theorem g9_fn:FnOk Tryz.prog 125 (insertTF 107 [(.int .i64 0),(.str [])] 2 24 149 150):=trE_ok (ks:=[[8],[8]]) Tryz.func125 (by kernel_rfl)
theorem slices_Insert_impl_Page_impl_Page__ovl:OvlOk Tryz.prog 149 2:=⟨40,4,107,by kernel_rfl,info_ex (by kernel_rfl),fun args w=>run_callFunc_extern Tryz.func149 (by kernel_rfl) (by kernel_rfl) (by kernel_rfl) (e:=Extern.SlicesOverlaps.overlaps #[40,40] #[4]) (by kernel_rfl) args w⟩
def slices_Insert_impl_Page_impl_Page_ (l:List (Int × Str)) (i:Int) (v:List (Int × Str)):Option (List (Int × Str)):=insV 24 l i v
noncomputable def g9_r:MRule:=ins_rV (Int × Str) 2 24
theorem g9_ok:MRuleOk Tryz.prog 125 0 g9_r:=ins_okV rfl rfl slices_Insert_impl_Page_impl_Page__ovl g9_fn
@[simp] theorem g9_app (y0:List (Int × Str))(y1)(y2:List (Int × Str)){n1 n2:Nat}(h1:n1 = y0.length)(h2:n2 = y2.length):g9_r [(ow 0 n1),.int .i64 y1,(.hs 1 0 n2 true)] [(ob 2 y0),(.live 2 (rows y2))] = (slices_Insert_impl_Page_impl_Page_ y0 y1 y2).map (fun r=>((ow 0 r.length),[(ob 2 r)])):=insV_app 2 24 y0 y1 y2 h1 h2
end
end Go.Proofs.TM
