/- Functions of the program, as functions of their data: written by program. -/
import Derived.Test.YtbhfiopdgapepaaGreatC0
namespace Go.Proofs.TM
open Go Go.Proofs
set_option linter.unusedVariables false
set_option linter.unusedSimpArgs false
set_option maxHeartbeats 1000000
attribute [-simp] Option.map_bind strV_some
attribute [simp] guardOn_bool sA_bslice Function.comp_def
noncomputable section
/-! spec.l12Set -/
def g53_tf:TFn:=⟨(.seq (.ops [oo 6 (.mv (kb false))]) (.trim [0,1,2] (.seq (.ops [mo 8 0,nk 9 8,fa 10 11 9,ld 11 10,mo 12 1,mo 13 2,oo 14 (.build [(.int .i64 0),(.str [])] [(0,1,(.t 12)),(1,1,(.t 13))]),oo 15 (.bslice [(.int .i64 0),(.str [])] 1 [(0,(.t 14))]),ca 16 159 [.t 11,.t 15],mo 7 16]) (.trim [0,7] (.seq (.seq (.ops [mo 17 0,nk 18 17,fa 19 4 18,ln 20 4 19,mo 21 7,le 22 21,ca 23 75 [.t 20,.t 22],nt 24 23]) (.trim [0,7,24] (.cond (.t 24) (.seq (.ops [oo 6 (.mv (kb false))]) (.keep ⟨[(6,0)],[(0,2),(1,1),(2,1),(3,1),(4,1)],1⟩ .ret)) .skip))) (.trim [0,7] (.seq (.ops [mo 25 0,mo 26 7,nk 27 25,fa 28 11 27,⟨none,none,(.store 1 (.t 28) (.t 26))⟩]) (.trim [] (.seq (.ops [oo 6 (.mv (kb true))]) (.keep ⟨[(6,0)],[(0,2),(1,1),(2,1),(3,1),(6,1)],1⟩ .ret)))))))))),[.t 6]⟩
abbrev g53_S:=Sys.on [(159,g85_r),(75,g98_r)] []
def spec_l12Set_oc8 (a1:K1) (a2:Int) (a3:Str):Option (K1 × Bool):=(spec_l11Merge a1.2.2.2.2.2 ((lit [(a2,a3)]:List (Int × Str)))).bind fun r1=>(spec_l12Fits a1.2.1 (((r1.length:Nat):Int))).bind fun r2=>if ¬(r2 = true) then some (a1,false) else some ((a1.1,a1.2.1,a1.2.2.1,a1.2.2.2.1,a1.2.2.2.2.1,r1),true)
@[simp] def g53_O:(K1 × Bool) → TV × List Blk:=fun r=>((.bool r.2),[(.live 12 [[(ow 1 r.1.1.1.length),(ow 2 r.1.1.2.1.length),(.int .i64 r.1.1.2.2.1),(.bool r.1.1.2.2.2),(.int .i64 r.1.2.1.1),(.int .i64 r.1.2.1.2.1),(.int .i64 r.1.2.1.2.2.1),(.int .i64 r.1.2.1.2.2.2),(.int .i64 r.1.2.2.1),(.int .i64 r.1.2.2.2.1),(ow 3 r.1.2.2.2.2.1.length),(ow 4 r.1.2.2.2.2.2.length)]]),(ob 1 r.1.1.1),(ob 2 r.1.1.2.1),(ob 2 r.1.2.2.2.2.1),(ob 2 r.1.2.2.2.2.2)])
abbrev g53_T:=K1 × Int × Str
def g53_E (a:g53_T):List TV:=[(.ptr 0 0 0),(.int .i64 a.2.1),(.str a.2.2)]
def g53_B (a:g53_T):List Blk:=[(.live 12 [[(ow 1 a.1.1.1.length),(ow 2 a.1.1.2.1.length),(.int .i64 a.1.1.2.2.1),(.bool a.1.1.2.2.2),(.int .i64 a.1.2.1.1),(.int .i64 a.1.2.1.2.1),(.int .i64 a.1.2.1.2.2.1),(.int .i64 a.1.2.1.2.2.2),(.int .i64 a.1.2.2.1),(.int .i64 a.1.2.2.2.1),(ow 3 a.1.2.2.2.2.1.length),(ow 4 a.1.2.2.2.2.2.length)]]),(ob 1 a.1.1.1),(ob 2 a.1.1.2.1),(ob 2 a.1.2.2.2.2.1),(ob 2 a.1.2.2.2.2.2)]
theorem g53_run (a1:K1) (a2:Int) (a3:Str):callFn (X g53_S) g53_tf (g53_E (a1,a2,a3)) (g53_B (a1,a2,a3)) = (spec_l12Set_oc8 a1 a2 a3).map g53_O:=by
  rw [callFn_eq]
  simp (maxSteps:=2000000) (maxDischargeDepth:=8) -implicitDefEqProofs [g53_tf,spec_l12Set_oc8,g53_E,g53_B,bslV_lit (α:=Int × Str) (zs:=[(.int .i64 0),(.str [])])] <;> (try simp only [map_to_bind,g53_O])
def g53_r:MRule:=RmO g53_E g53_B (fun a=>spec_l12Set_oc8 a.1 a.2.1 a.2.2) g53_O
theorem g53_ok:MRuleOk Tryz.prog 118 1 g53_r:=ok_rmo (S:=g53_S) (tf:=g53_tf) (SysOk.on ⟨g85_ok,g98_ok,trivial⟩ trivial) (trE_ok (ks:=[]) Tryz.func118 (by kernel_rfl)) (by rfl) (fun _=>by simp [g53_B]) (fun _=>by simp) fun a=>g53_run a.1 a.2.1 a.2.2
@[simp] theorem g53_app (y0:List Str)(y1:List (Int × Str))(y2 y3 y4 y5 y6 y7 y8 y9)(y10:List (Int × Str))(y11:List (Int × Str))(y12 y13){n1:Nat}(h1:n1 = y0.length){n2:Nat}(h2:n2 = y1.length){n3:Nat}(h3:n3 = y10.length){n4:Nat}(h4:n4 = y11.length):g53_r [(.ptr 0 0 0),(.int .i64 y12),(.str y13)] [(.live 12 [[(ow 1 n1),(ow 2 n2),(.int .i64 y2),(.bool y3),(.int .i64 y4),(.int .i64 y5),(.int .i64 y6),(.int .i64 y7),(.int .i64 y8),(.int .i64 y9),(ow 3 n3),(ow 4 n4)]]),(ob 1 y0),(ob 2 y1),(ob 2 y10),(ob 2 y11)] = (spec_l12Set_oc8 (((y0,y1,y2,y3),(y4,y5,y6,y7),y8,y9,y10,y11)) y12 y13).map g53_O:=by
  subst h1 h2 h3 h4
  exact RmO_app (enc:=g53_E) (encB:=g53_B) (by intro a b h h2; simp [g53_E,g53_B,Prod.ext_iff] at h h2 ⊢; simp [h,h2]) (((y0,y1,y2,y3),(y4,y5,y6,y7),y8,y9,y10,y11),y12,y13)
/-! spec.l13Put -/
def g54_tf:TFn:=⟨(.seq (.ops [oo 4 (.mv (ki 0))]) (.trim [0,1] (.seq (.seq (.ops [mo 5 0,mo 6 0,nk 7 6,fa 8 4 7,ln 9 4 8,ca 10 106 [.t 9],mo 11 1,oo 12 (.callM 118 0 [0,1,2,3,4] [.t 5,.t 10,.t 11]),nt 13 12]) (.trim [13] (.cond (.t 13) (.seq (.ops [oo 4 (.mv (ki 5))]) (.keep ⟨[(4,0)],[(0,2),(5,1),(6,1),(7,1),(8,1)],1⟩ .ret)) .skip))) (.trim [] (.seq (.ops [oo 4 (.mv (ki 0))]) (.keep ⟨[(4,0)],[(0,2),(5,1),(6,1),(7,1),(8,1)],1⟩ .ret)))))),[.t 4]⟩
abbrev g54_S:=Sys.on [(106,g97_r)] [((118,0),(1,g53_r))]
def spec_l13Put_oea (a1:K1) (a2:Str):Option (K1 × Int):=(spec_l10Area a1.2.1).bind fun r1=>(spec_l12Set_oc8 a1 r1 a2).bind fun r2=>if ¬(r2.2 = true) then some (r2.1,5) else some (r2.1,0)
@[simp] def g54_O:(K1 × Int) → TV × List Blk:=fun r=>((.int .i64 r.2),[(.live 12 [[(ow 1 r.1.1.1.length),(ow 2 r.1.1.2.1.length),(.int .i64 r.1.1.2.2.1),(.bool r.1.1.2.2.2),(.int .i64 r.1.2.1.1),(.int .i64 r.1.2.1.2.1),(.int .i64 r.1.2.1.2.2.1),(.int .i64 r.1.2.1.2.2.2),(.int .i64 r.1.2.2.1),(.int .i64 r.1.2.2.2.1),(ow 3 r.1.2.2.2.2.1.length),(ow 4 r.1.2.2.2.2.2.length)]]),(ob 1 r.1.1.1),(ob 2 r.1.1.2.1),(ob 2 r.1.2.2.2.2.1),(ob 2 r.1.2.2.2.2.2)])
abbrev g54_T:=K1 × Str
def g54_E (a:g54_T):List TV:=[(.ptr 0 0 0),(.str a.2)]
def g54_B (a:g54_T):List Blk:=[(.live 12 [[(ow 1 a.1.1.1.length),(ow 2 a.1.1.2.1.length),(.int .i64 a.1.1.2.2.1),(.bool a.1.1.2.2.2),(.int .i64 a.1.2.1.1),(.int .i64 a.1.2.1.2.1),(.int .i64 a.1.2.1.2.2.1),(.int .i64 a.1.2.1.2.2.2),(.int .i64 a.1.2.2.1),(.int .i64 a.1.2.2.2.1),(ow 3 a.1.2.2.2.2.1.length),(ow 4 a.1.2.2.2.2.2.length)]]),(ob 1 a.1.1.1),(ob 2 a.1.1.2.1),(ob 2 a.1.2.2.2.2.1),(ob 2 a.1.2.2.2.2.2)]
theorem g54_run (a1:K1) (a2:Str):callFn (X g54_S) g54_tf (g54_E (a1,a2)) (g54_B (a1,a2)) = (spec_l13Put_oea a1 a2).map g54_O:=by
  rw [callFn_eq]
  simp (maxSteps:=2000000) (maxDischargeDepth:=8) -implicitDefEqProofs [g54_tf,spec_l13Put_oea,g54_E,g54_B] <;> (try simp only [map_to_bind,g54_O])
def g54_r:MRule:=RmO g54_E g54_B (fun a=>spec_l13Put_oea a.1 a.2) g54_O
theorem g54_ok:MRuleOk Tryz.prog 81 1 g54_r:=ok_rmo (S:=g54_S) (tf:=g54_tf) (SysOk.on ⟨g97_ok,trivial⟩ ⟨g53_ok,trivial⟩) (trE_ok (ks:=[]) Tryz.func81 (by kernel_rfl)) (by rfl) (fun _=>by simp [g54_B]) (fun _=>by simp) fun a=>g54_run a.1 a.2
@[simp] theorem g54_app (y0:List Str)(y1:List (Int × Str))(y2 y3 y4 y5 y6 y7 y8 y9)(y10:List (Int × Str))(y11:List (Int × Str))(y12){n1:Nat}(h1:n1 = y0.length){n2:Nat}(h2:n2 = y1.length){n3:Nat}(h3:n3 = y10.length){n4:Nat}(h4:n4 = y11.length):g54_r [(.ptr 0 0 0),(.str y12)] [(.live 12 [[(ow 1 n1),(ow 2 n2),(.int .i64 y2),(.bool y3),(.int .i64 y4),(.int .i64 y5),(.int .i64 y6),(.int .i64 y7),(.int .i64 y8),(.int .i64 y9),(ow 3 n3),(ow 4 n4)]]),(ob 1 y0),(ob 2 y1),(ob 2 y10),(ob 2 y11)] = (spec_l13Put_oea (((y0,y1,y2,y3),(y4,y5,y6,y7),y8,y9,y10,y11)) y12).map g54_O:=by
  subst h1 h2 h3 h4
  exact RmO_app (enc:=g54_E) (encB:=g54_B) (by intro a b h h2; simp [g54_E,g54_B,Prod.ext_iff] at h h2 ⊢; simp [h,h2]) (((y0,y1,y2,y3),(y4,y5,y6,y7),y8,y9,y10,y11),y12)
/-! spec.l13Allocate -/
def g21_tf:TFn:=⟨(.seq (.ops [oo 4 (.mv (ki 0)),oo 5 (.mv (ki 0))]) (.trim [0,1] (.seq (.ops [mo 7 0,ca 8 183 [.t 7],mo 9 1,ca 10 182 [.t 8,.t 9],mo 6 10]) (.trim [0,1,6] (.seq (.seq (.ops [mo 11 6,bn 12 .eql (.t 11) (ki 0)]) (.trim [0,1,6,12] (.cond (.t 12) (.seq (.ops [oo 4 (.mv (ki 0)),oo 5 (.mv (ki 5))]) (.keep ⟨[(4,0),(5,0)],[(0,2),(1,1),(2,1),(3,1),(4,1)],1⟩ .ret)) .skip))) (.trim [0,1,6] (.seq (.ops [mo 13 6,mo 14 0,mo 15 0,ca 16 83 [.t 15],mo 17 6,mo 18 1,ca 19 181 [.t 16,.t 17,.t 18,kb true],oo 20 (.callM 81 0 [0,1,2,3,4] [.t 14,.t 19]),mo 4 13,mo 5 20]) (.keep ⟨[(4,0),(5,0)],[(0,2),(6,1),(7,1),(8,1),(9,1)],1⟩ .ret)))))))),[.t 4,.t 5]⟩
abbrev g21_S:=Sys.on [(183,g105_r),(182,g106_r),(83,g101_r),(181,g107_r)] [((81,0),(1,g54_r))]
def spec_l13Allocate_of2 (a1:K1) (a2:Int):Option (K1 × Int × Int):=(spec_l13Runs a1).bind fun r1=>(spec_l13Best r1 a2).bind fun r2=>if r2 = 0 then some (a1,0,5) else (spec_l13Area a1).bind fun r3=>(spec_l13Mark r3 r2 a2 true).bind fun r4=>(spec_l13Put_oea a1 r4).bind fun r5=>some (r5.1,r2,r5.2)
@[simp] def g21_O:(K1 × Int × Int) → TV × List Blk:=fun r=>((.tup [(.int .i64 r.2.1),(.int .i64 r.2.2)]),[(.live 12 [[(ow 1 r.1.1.1.length),(ow 2 r.1.1.2.1.length),(.int .i64 r.1.1.2.2.1),(.bool r.1.1.2.2.2),(.int .i64 r.1.2.1.1),(.int .i64 r.1.2.1.2.1),(.int .i64 r.1.2.1.2.2.1),(.int .i64 r.1.2.1.2.2.2),(.int .i64 r.1.2.2.1),(.int .i64 r.1.2.2.2.1),(ow 3 r.1.2.2.2.2.1.length),(ow 4 r.1.2.2.2.2.2.length)]]),(ob 1 r.1.1.1),(ob 2 r.1.1.2.1),(ob 2 r.1.2.2.2.2.1),(ob 2 r.1.2.2.2.2.2)])
abbrev g21_T:=K1 × Int
def g21_E (a:g21_T):List TV:=[(.ptr 0 0 0),(.int .i64 a.2)]
def g21_B (a:g21_T):List Blk:=[(.live 12 [[(ow 1 a.1.1.1.length),(ow 2 a.1.1.2.1.length),(.int .i64 a.1.1.2.2.1),(.bool a.1.1.2.2.2),(.int .i64 a.1.2.1.1),(.int .i64 a.1.2.1.2.1),(.int .i64 a.1.2.1.2.2.1),(.int .i64 a.1.2.1.2.2.2),(.int .i64 a.1.2.2.1),(.int .i64 a.1.2.2.2.1),(ow 3 a.1.2.2.2.2.1.length),(ow 4 a.1.2.2.2.2.2.length)]]),(ob 1 a.1.1.1),(ob 2 a.1.1.2.1),(ob 2 a.1.2.2.2.2.1),(ob 2 a.1.2.2.2.2.2)]
theorem g21_run (a1:K1) (a2:Int):callFn (X g21_S) g21_tf (g21_E (a1,a2)) (g21_B (a1,a2)) = (spec_l13Allocate_of2 a1 a2).map g21_O:=by
  rw [callFn_eq]
  simp (maxSteps:=2000000) (maxDischargeDepth:=8) -implicitDefEqProofs [g21_tf,spec_l13Allocate_of2,g21_E,g21_B] <;> (try simp only [map_to_bind,g21_O])
def g21_r:MRule:=RmO g21_E g21_B (fun a=>spec_l13Allocate_of2 a.1 a.2) g21_O
theorem g21_ok:MRuleOk Tryz.prog 149 1 g21_r:=ok_rmo (S:=g21_S) (tf:=g21_tf) (SysOk.on ⟨g105_ok,g106_ok,g101_ok,g107_ok,trivial⟩ ⟨g54_ok,trivial⟩) (trE_ok (ks:=[]) Tryz.func149 (by kernel_rfl)) (by rfl) (fun _=>by simp [g21_B]) (fun _=>by simp) fun a=>g21_run a.1 a.2
@[simp] theorem g21_app (y0:List Str)(y1:List (Int × Str))(y2 y3 y4 y5 y6 y7 y8 y9)(y10:List (Int × Str))(y11:List (Int × Str))(y12){n1:Nat}(h1:n1 = y0.length){n2:Nat}(h2:n2 = y1.length){n3:Nat}(h3:n3 = y10.length){n4:Nat}(h4:n4 = y11.length):g21_r [(.ptr 0 0 0),(.int .i64 y12)] [(.live 12 [[(ow 1 n1),(ow 2 n2),(.int .i64 y2),(.bool y3),(.int .i64 y4),(.int .i64 y5),(.int .i64 y6),(.int .i64 y7),(.int .i64 y8),(.int .i64 y9),(ow 3 n3),(ow 4 n4)]]),(ob 1 y0),(ob 2 y1),(ob 2 y10),(ob 2 y11)] = (spec_l13Allocate_of2 (((y0,y1,y2,y3),(y4,y5,y6,y7),y8,y9,y10,y11)) y12).map g21_O:=by
  subst h1 h2 h3 h4
  exact RmO_app (enc:=g21_E) (encB:=g21_B) (by intro a b h h2; simp [g21_E,g21_B,Prod.ext_iff] at h h2 ⊢; simp [h,h2]) (((y0,y1,y2,y3),(y4,y5,y6,y7),y8,y9,y10,y11),y12)
/-! spec.l14Grow -/
def g47l1_cb:TC:=(.seq (.seq (.ops [mo 10 1,le 11 10,mo 12 2,bn 13 .lss (.t 11) (.t 12)]) (.trim [0,1,2,13] (.cond (.t 13) .skip (.keep ⟨[(1,1)],[(0,2),(1,1),(2,1),(3,1),(4,1),(5,1)],1⟩ (.exit 0))))) (.trim [0,1,2] (.block 1 (.seq (.ops [mo 15 0,oo 16 (.callM 149 0 [0,1,2,3,4] [.t 15,ki 1]),mo 14 16,oo 17 (.ext (.t 14) 0),oo 18 (.ext (.t 14) 1),mo 8 17,mo 9 18]) (.trim [0,1,2,8,9] (.seq (.seq (.ops [mo 19 9,bn 20 .neq (.t 19) (ki 0)]) (.trim [0,1,2,8,9,20] (.cond (.t 20) (.seq (.ops [mo 21 9,oo 6 (.mv (.c .nils)),mo 7 21]) (.keep ⟨[(6,1),(7,0)],[(0,2),(6,1),(7,1),(8,1),(9,1),(1000,1)],1⟩ .ret)) .skip))) (.trim [0,1,2,8] (.after (.ops [mo 22 1,mo 23 8,oo 24 (.bslice [(.int .i64 0)] 1 [(0,(.t 23))]),oo 25 (.append 2 1 8 (.t 22) (.t 24)),mo 1 25]) ⟨[(0,0),(1,1),(2,0)],[(0,2),(6,1),(7,1),(8,1),(9,1),(11,1)],1⟩))))))))
def g47l1_c:TC:=.loop [0,1,2] g47l1_cb
def g47_tf:TFn:=⟨(.seq (.ops [oo 6 (.mv (.c .nils)),oo 7 (.mv (ki 0))]) (.trim [0,1,2] (.seq (.block 0 (.keep ⟨[(0,0),(1,1),(2,0)],[(0,2),(1,1),(2,1),(3,1),(4,1),(1000,1)],1⟩ g47l1_c)) (.trim [1] (.seq (.ops [mo 26 1,mo 6 26,oo 7 (.mv (ki 0))]) (.keep ⟨[(6,1),(7,0)],[(0,2),(1,1),(2,1),(3,1),(4,1),(5,1)],1⟩ .ret)))))),[.t 6,.t 7]⟩
abbrev g47_S:=Sys.on [] [((149,0),(1,g21_r))]
@[reducible,simp] def g47l1_F:((K1 × List Int) ⊕ (K1 × List Int × Int)) → Out:=(Sum.elim (fun t=>(.ext 0,[(1,(ow 5 t.2.length))],[(.live 12 [[(ow 1 t.1.1.1.length),(ow 2 t.1.1.2.1.length),(.int .i64 t.1.1.2.2.1),(.bool t.1.1.2.2.2),(.int .i64 t.1.2.1.1),(.int .i64 t.1.2.1.2.1),(.int .i64 t.1.2.1.2.2.1),(.int .i64 t.1.2.1.2.2.2),(.int .i64 t.1.2.2.1),(.int .i64 t.1.2.2.2.1),(ow 3 t.1.2.2.2.2.1.length),(ow 4 t.1.2.2.2.2.2.length)]]),(ob 1 t.1.1.1),(ob 2 t.1.1.2.1),(ob 2 t.1.2.2.2.2.1),(ob 2 t.1.2.2.2.2.2),(ob 1 t.2)])) (fun t=>(.ret,[(6,(ow 5 t.2.1.length)),(7,(.int .i64 t.2.2))],[(.live 12 [[(ow 1 t.1.1.1.length),(ow 2 t.1.1.2.1.length),(.int .i64 t.1.1.2.2.1),(.bool t.1.1.2.2.2),(.int .i64 t.1.2.1.1),(.int .i64 t.1.2.1.2.1),(.int .i64 t.1.2.1.2.2.1),(.int .i64 t.1.2.1.2.2.2),(.int .i64 t.1.2.2.1),(.int .i64 t.1.2.2.2.1),(ow 3 t.1.2.2.2.2.1.length),(ow 4 t.1.2.2.2.2.2.length)]]),(ob 1 t.1.1.1),(ob 2 t.1.1.2.1),(ob 2 t.1.2.2.2.2.1),(ob 2 t.1.2.2.2.2.2),(ob 1 t.2.1)])))
def spec_l14Grow_ob7_l1_b (v3:Int) (v1:K1) (v2:List Int):Option ((K1 × List Int) ⊕ ((K1 × List Int) ⊕ (K1 × List Int × Int))):=if ((v2.length:Nat):Int) < v3 then (spec_l13Allocate_of2 v1 1).bind fun r4=>if ¬(r4.2.2 = 0) then some (.inr (.inr (r4.1,([]:List Int),r4.2.2))) else (appL 8 v2 ((lit [r4.2.1]:List Int))).bind fun l5=>some (.inl (r4.1,l5)) else some (.inr (.inl (v1,v2)))
theorem g47l1_b_eq  (v3:Int) (v1:K1) (v2:List Int):X g47_S g47l1_cb (keepEnv [0,1,2] [(0,(.ptr 0 0 0)),(1,(ow 5 v2.length)),(2,(.int .i64 v3))]) [(.live 12 [[(ow 1 v1.1.1.length),(ow 2 v1.1.2.1.length),(.int .i64 v1.1.2.2.1),(.bool v1.1.2.2.2),(.int .i64 v1.2.1.1),(.int .i64 v1.2.1.2.1),(.int .i64 v1.2.1.2.2.1),(.int .i64 v1.2.1.2.2.2),(.int .i64 v1.2.2.1),(.int .i64 v1.2.2.2.1),(ow 3 v1.2.2.2.2.1.length),(ow 4 v1.2.2.2.2.2.length)]]),(ob 1 v1.1.1),(ob 2 v1.1.2.1),(ob 2 v1.2.2.2.2.1),(ob 2 v1.2.2.2.2.2),(ob 1 v2)] = (spec_l14Grow_ob7_l1_b v3 v1 v2).map (Sum.elim (fun s=>(TX.nrm,[(0,(.ptr 0 0 0)),(1,(ow 5 s.2.length)),(2,(.int .i64 v3))],[(.live 12 [[(ow 1 s.1.1.1.length),(ow 2 s.1.1.2.1.length),(.int .i64 s.1.1.2.2.1),(.bool s.1.1.2.2.2),(.int .i64 s.1.2.1.1),(.int .i64 s.1.2.1.2.1),(.int .i64 s.1.2.1.2.2.1),(.int .i64 s.1.2.1.2.2.2),(.int .i64 s.1.2.2.1),(.int .i64 s.1.2.2.2.1),(ow 3 s.1.2.2.2.2.1.length),(ow 4 s.1.2.2.2.2.2.length)]]),(ob 1 s.1.1.1),(ob 2 s.1.1.2.1),(ob 2 s.1.2.2.2.2.1),(ob 2 s.1.2.2.2.2.2),(ob 1 s.2)])) g47l1_F):=by
  simp (maxSteps:=2000000) (maxDischargeDepth:=8) -implicitDefEqProofs [g47l1_cb,spec_l14Grow_ob7_l1_b,bslV_lit (α:=Int) (zs:=[(.int .i64 0)])] <;> (try simp only [map_to_bind,g47l1_F])
def spec_l14Grow_ob7_l1 (v3:Int) (s:K1 × List Int):Option ((K1 × List Int) ⊕ (K1 × List Int × Int)):=loopO (fun s=>spec_l14Grow_ob7_l1_b v3 s.1 s.2) s
@[simp] theorem g47l1_eq (y0 y1 y2 y3 y4 y5 y6 y7 y8 y9 y10 y11)(y12:List Int)(y13){n1:Nat}(h1:n1 = y12.length):X g47_S g47l1_c [(0,(.ptr 0 0 0)),(1,(ow 5 n1)),(2,(.int .i64 y13))] [(.live 12 [[(ow 1 y0.length),(ow 2 y1.length),(.int .i64 y2),(.bool y3),(.int .i64 y4),(.int .i64 y5),(.int .i64 y6),(.int .i64 y7),(.int .i64 y8),(.int .i64 y9),(ow 3 y10.length),(ow 4 y11.length)]]),(ob 1 y0),(ob 2 y1),(ob 2 y10),(ob 2 y11),(ob 1 y12)] = (spec_l14Grow_ob7_l1 y13 (((y0,y1,y2,y3),(y4,y5,y6,y7),y8,y9,y10,y11),y12)).map g47l1_F:=by
  subst h1
  exact loop_X _ _ _ _ (by intro r; first | (simp; done) | (rcases r with r | r <;> simp; done) | (rcases r with r | r | r <;> simp; done) | (rcases r with r | r | r | r <;> simp)) (fun s=>g47l1_b_eq  y13 s.1 s.2) (((y0,y1,y2,y3),(y4,y5,y6,y7),y8,y9,y10,y11),y12)
@[simp] theorem g47l1_eq_1 (y0 y1 y2 y3 y4 y5 y6 y7 y8 y9 y10 y11 y12):X g47_S g47l1_c [(0,(.ptr 0 0 0)),(1,.es),(2,(.int .i64 y12))] [(.live 12 [[(ow 1 y0.length),(ow 2 y1.length),(.int .i64 y2),(.bool y3),(.int .i64 y4),(.int .i64 y5),(.int .i64 y6),(.int .i64 y7),(.int .i64 y8),(.int .i64 y9),(ow 3 y10.length),(ow 4 y11.length)]]),(ob 1 y0),(ob 2 y1),(ob 2 y10),(ob 2 y11),.dead] = (spec_l14Grow_ob7_l1 y12 (((y0,y1,y2,y3),(y4,y5,y6,y7),y8,y9,y10,y11),([]:List Int))).map g47l1_F :=
  g47l1_eq  y0 y1 y2 y3 y4 y5 y6 y7 y8 y9 y10 y11 ([]:List Int) y12 rfl
def spec_l14Grow_ob7 (a1:K1) (a2:Int):Option (K1 × List Int × Int):=(spec_l14Grow_ob7_l1 a2 ((a1,([]:List Int)))).bind fun r6=>Sum.elim (fun u7=>some (u7.1,u7.2,0)) (fun u8=>some (u8.1,u8.2.1,u8.2.2)) r6
@[simp] def g47_O:(K1 × List Int × Int) → TV × List Blk:=fun r=>((.tup [(ow 5 r.2.1.length),(.int .i64 r.2.2)]),[(.live 12 [[(ow 1 r.1.1.1.length),(ow 2 r.1.1.2.1.length),(.int .i64 r.1.1.2.2.1),(.bool r.1.1.2.2.2),(.int .i64 r.1.2.1.1),(.int .i64 r.1.2.1.2.1),(.int .i64 r.1.2.1.2.2.1),(.int .i64 r.1.2.1.2.2.2),(.int .i64 r.1.2.2.1),(.int .i64 r.1.2.2.2.1),(ow 3 r.1.2.2.2.2.1.length),(ow 4 r.1.2.2.2.2.2.length)]]),(ob 1 r.1.1.1),(ob 2 r.1.1.2.1),(ob 2 r.1.2.2.2.2.1),(ob 2 r.1.2.2.2.2.2),(ob 1 r.2.1)])
abbrev g47_T:=K1 × Int
def g47_E (a:g47_T):List TV:=[(.ptr 0 0 0),.es,(.int .i64 a.2)]
def g47_B (a:g47_T):List Blk:=[(.live 12 [[(ow 1 a.1.1.1.length),(ow 2 a.1.1.2.1.length),(.int .i64 a.1.1.2.2.1),(.bool a.1.1.2.2.2),(.int .i64 a.1.2.1.1),(.int .i64 a.1.2.1.2.1),(.int .i64 a.1.2.1.2.2.1),(.int .i64 a.1.2.1.2.2.2),(.int .i64 a.1.2.2.1),(.int .i64 a.1.2.2.2.1),(ow 3 a.1.2.2.2.2.1.length),(ow 4 a.1.2.2.2.2.2.length)]]),(ob 1 a.1.1.1),(ob 2 a.1.1.2.1),(ob 2 a.1.2.2.2.2.1),(ob 2 a.1.2.2.2.2.2)]
theorem g47_run (a1:K1) (a2:Int):callFn (X g47_S) g47_tf (g47_E (a1,a2)) (g47_B (a1,a2)) = (spec_l14Grow_ob7 a1 a2).map g47_O:=by
  rw [callFn_eq]
  simp (maxSteps:=2000000) (maxDischargeDepth:=8) -implicitDefEqProofs [g47_tf,spec_l14Grow_ob7,g47_E,g47_B,bslV_lit (α:=Int) (zs:=[(.int .i64 0)])] <;> (try simp only [map_to_bind,g47_O])
def g47_r:MRule:=RmO g47_E g47_B (fun a=>spec_l14Grow_ob7 a.1 a.2) g47_O
theorem g47_ok:MRuleOk Tryz.prog 125 1 g47_r:=ok_rmo (S:=g47_S) (tf:=g47_tf) (SysOk.on trivial ⟨g21_ok,trivial⟩) (trE_ok (ks:=[[0,1,2]]) Tryz.func125 (by kernel_rfl)) (by rfl) (fun _=>by simp [g47_B]) (fun _=>by simp) fun a=>g47_run a.1 a.2
@[simp] theorem g47_app (y0:List Str)(y1:List (Int × Str))(y2 y3 y4 y5 y6 y7 y8 y9)(y10:List (Int × Str))(y11:List (Int × Str))(y12){n1:Nat}(h1:n1 = y0.length){n2:Nat}(h2:n2 = y1.length){n3:Nat}(h3:n3 = y10.length){n4:Nat}(h4:n4 = y11.length):g47_r [(.ptr 0 0 0),.es,(.int .i64 y12)] [(.live 12 [[(ow 1 n1),(ow 2 n2),(.int .i64 y2),(.bool y3),(.int .i64 y4),(.int .i64 y5),(.int .i64 y6),(.int .i64 y7),(.int .i64 y8),(.int .i64 y9),(ow 3 n3),(ow 4 n4)]]),(ob 1 y0),(ob 2 y1),(ob 2 y10),(ob 2 y11)] = (spec_l14Grow_ob7 (((y0,y1,y2,y3),(y4,y5,y6,y7),y8,y9,y10,y11)) y12).map g47_O:=by
  subst h1 h2 h3 h4
  exact RmO_app (enc:=g47_E) (encB:=g47_B) (by intro a b h h2; simp [g47_E,g47_B,Prod.ext_iff] at h h2 ⊢; simp [h,h2]) (((y0,y1,y2,y3),(y4,y5,y6,y7),y8,y9,y10,y11),y12)
/-! spec.l00Min -/
def g126_tf:TFn:=⟨(.seq (.ops [oo 4 (.mv (ki 0))]) (.trim [0,1] (.seq (.seq (.ops [mo 5 0,mo 6 1,bn 7 .lss (.t 5) (.t 6)]) (.trim [0,1,7] (.cond (.t 7) (.seq (.ops [mo 8 0,mo 4 8]) (.keep ⟨[(4,0)],[],0⟩ .ret)) .skip))) (.trim [1] (.seq (.ops [mo 9 1,mo 4 9]) (.keep ⟨[(4,0)],[],0⟩ .ret)))))),[.t 4]⟩
abbrev g126_S:=Sys.on [] []
def spec_l00Min (a_a:Int) (a_b:Int):Option (Int):=if a_a < a_b then some a_a else some a_b
@[simp] def g126_O:Int → TV × List Blk:=fun r=>((.int .i64 r),[])
def g126_E (a:Int × Int):List TV:=[(.int .i64 a.1),(.int .i64 a.2)]
theorem g126_run (a_a:Int) (a_b:Int) :callFn (X g126_S) g126_tf (g126_E (a_a,a_b)) [] = (spec_l00Min a_a a_b).map g126_O:=by
  rw [callFn_eq]
  simp (maxSteps:=2000000) (maxDischargeDepth:=8) -implicitDefEqProofs [g126_tf,spec_l00Min,g126_E] <;> (try simp only [map_to_bind,g126_O])
def g126_r:Rule:=RlO g126_E (fun a=>spec_l00Min a.1 a.2) g126_O
theorem g126_ok:RuleOk Tryz.prog 163 g126_r:=ok_rlo (S:=g126_S) (tf:=g126_tf) (SysOk.on trivial trivial) (trE_ok (ks:=[]) Tryz.func163 (by kernel_rfl)) fun a=>g126_run a.1 a.2
@[simp] theorem g126_app (y0 y1):g126_r [(.int .i64 y0),(.int .i64 y1)] = (spec_l00Min y0 y1).map g126_O :=
  RlO_app (enc:=g126_E) (by intro a b h; simp [g126_E,Prod.ext_iff] at h ⊢; simp [h]) (y0,y1)
/-! spec.l01Pad -/
def g127_tf:TFn:=⟨(.seq (.ops [oo 4 (.mv (.c (.str [])))]) (.trim [0,1] (.seq (.seq (.ops [mo 5 0,oo 6 (.len true (.t 5)),mo 7 1,bn 8 .geq (.t 6) (.t 7)]) (.trim [0,1,8] (.cond (.t 8) (.seq (.ops [mo 9 0,mo 4 9]) (.keep ⟨[(4,0)],[],0⟩ .ret)) .skip))) (.trim [0,1] (.seq (.ops [mo 10 0,mo 11 1,mo 12 0,oo 13 (.len true (.t 12)),bn 14 .sub (.t 11) (.t 13),oo 15 (.mkslice 1 [(.int .u8 0)] (.t 14) (.t 14)),oo 16 (.conv .toStr (.t 15)),oo 17 (.bin .str .add (.t 10) (.t 16)),mo 4 17]) (.keep ⟨[(4,0)],[],0⟩ .ret)))))),[.t 4]⟩
abbrev g127_S:=Sys.on [] []
def spec_l01Pad (a_s:Str) (a_n:Int):Option (Str):=if (a_s.length:Int) ≥ a_n then some a_s else (mkL 1 ((IntKind.i64.wrap (a_n - ((a_s.length:Int))))) ((IntKind.i64.wrap (a_n - ((a_s.length:Int))))) ((⟨0⟩:Bt):Bt)).bind fun l1=>if a_s.length + ((l1.map Bt.v)).length ≤ 9223372036854775807 then some ((a_s ++ (l1.map Bt.v))) else none
@[simp] def g127_O:Str → TV × List Blk:=fun r=>((.str r),[])
def g127_E (a:Str × Int):List TV:=[(.str a.1),(.int .i64 a.2)]
theorem g127_run (a_s:Str) (a_n:Int) :callFn (X g127_S) g127_tf (g127_E (a_s,a_n)) [] = (spec_l01Pad a_s a_n).map g127_O:=by
  rw [callFn_eq]
  simp (maxSteps:=2000000) (maxDischargeDepth:=8) -implicitDefEqProofs [g127_tf,spec_l01Pad,g127_E,mksliceV_typed (z:=((⟨0⟩:Bt):Bt)) (zs:=[(.int .u8 0)]) rfl (by decide)] <;> (try simp only [map_to_bind,g127_O])
def g127_r:Rule:=RlO g127_E (fun a=>spec_l01Pad a.1 a.2) g127_O
theorem g127_ok:RuleOk Tryz.prog 109 g127_r:=ok_rlo (S:=g127_S) (tf:=g127_tf) (SysOk.on trivial trivial) (trE_ok (ks:=[]) Tryz.func109 (by kernel_rfl)) fun a=>g127_run a.1 a.2
@[simp] theorem g127_app (y0 y1):g127_r [(.str y0),(.int .i64 y1)] = (spec_l01Pad y0 y1).map g127_O :=
  RlO_app (enc:=g127_E) (by intro a b h; simp [g127_E,Prod.ext_iff] at h ⊢; simp [h]) (y0,y1)
/-! spec.l14Store -/
def g36p2_c:TC:=(.seq (.ops [mo 30 7,oo 31 (.len true (.t 30)),ca 32 163 [ki 60,.t 31],mo 10 32]) (.trim [0,1,7,8,9,10] (.seq (.draw [([],mo 33 9),([0],ca 34 164 [.t 33,ki 2,kb false]),([],mo 35 10),([0,1,2],ca 36 164 [.t 35,ki 2,kb false]),([0,1,2,3],oo 37 (.bin .str .add (.t 34) (.t 36))),([],mo 38 7),([],mo 39 10),([5,6],oo 40 (.sliceS (.t 38) none (some (.t 39))))] [oo 41 (.bin .str .add (.t 37) (.t 40)),mo 11 41]) (.trim [0,1,7,8,10,11] (.seq (.ops [mo 42 7,mo 43 10,oo 44 (.sliceS (.t 42) (some (.t 43)) none),mo 7 44]) (.trim [0,1,7,8,11] (.seq (.draw [([],mo 45 0),([],mo 46 1),([],mo 47 8),([1,2],ia 48 1 46 47),([1,2,3],ld 49 48),([],mo 50 11),([5],ca 51 109 [.t 50,ki 64])] [oo 52 (.callM 118 0 [0,3,4,5,6] [.t 45,.t 49,.t 51]),nt 53 52]) (.trim [0,1,7,8,53] (.cond (.t 53) (.seq (.ops [oo 6 (.mv (ki 5))]) (.keep ⟨[(6,0)],[(0,2),(1,1),(2,1),(7,1),(8,1),(9,1),(10,1)],3⟩ .ret)) (.keep ⟨[(0,0),(1,0),(7,0),(8,0)],[(0,2),(1,1),(2,1),(7,1),(8,1),(9,1),(10,1)],3⟩ .skip))))))))))
def g36l1_cb:TC:=(.seq (.seq (.ops [mo 14 8,mo 15 1,le 16 15,bn 17 .lss (.t 14) (.t 16)]) (.trim [0,1,7,8,17] (.cond (.t 17) .skip (.keep ⟨[],[(0,2),(1,1),(2,1),(3,1),(4,1),(5,1),(6,1)],3⟩ (.exit 0))))) (.trim [0,1,7,8] (.seq (.block 1 (.seq (.ops [oo 9 (.mv (ki 0))]) (.trim [0,1,7,8,9] (.seq (.seq (.ops [mo 20 8,bn 21 .add (.t 20) (ki 1),mo 22 1,le 23 22,bn 24 .lss (.t 21) (.t 23)]) (.trim [0,1,7,8,9,24] (.cond (.t 24) (.after (.ops [mo 25 1,mo 26 8,bn 27 .add (.t 26) (ki 1),ia 28 1 25 27,ld 29 28,mo 9 29]) ⟨[(0,0),(1,0),(7,0),(8,0),(9,0)],[(0,2),(1,1),(2,1),(3,1),(4,1),(5,1),(6,1)],3⟩) (.keep ⟨[(0,0),(1,0),(7,0),(8,0),(9,0)],[(0,2),(1,1),(2,1),(3,1),(4,1),(5,1),(6,1)],3⟩ .skip)))) (.trim [0,1,7,8,9] g36p2_c))))) (.trim [0,1,7,8] (.after (.ops [mo 18 8,bn 19 .add (.t 18) (ki 1),mo 8 19]) ⟨[(0,0),(1,0),(7,0),(8,0)],[(0,2),(1,1),(2,1),(3,1),(4,1),(5,1),(6,1)],3⟩)))))
def g36l1_c:TC:=.loop [0,1,7,8] g36l1_cb
def g36_tf:TFn:=⟨(.seq (.ops [bx 5 2,oo 6 (.mv (ki 0))]) (.trim [0,1,5] (.seq (.ops [ln 12 3 5,ca 13 162 [.t 12],mo 7 13]) (.trim [0,1,7] (.seq (.seq (.ops [oo 8 (.mv (ki 0))]) (.trim [0,1,7,8] (.block 0 (.keep ⟨[(0,0),(1,0),(7,0),(8,0)],[(0,2),(1,1),(2,1),(3,1),(4,1),(5,1),(6,1)],3⟩ g36l1_c)))) (.trim [] (.seq (.ops [oo 6 (.mv (ki 0))]) (.keep ⟨[(6,0)],[(0,2),(1,1),(2,1),(3,1),(4,1),(5,1),(6,1)],3⟩ .ret)))))))),[.t 6]⟩
abbrev g36_S:=Sys.on [(162,g69_r),(163,g126_r),(164,g124_r),(109,g127_r)] [((118,0),(1,g53_r))]
@[reducible,simp] def g36p2_F:((K1 × List Int × (List (Int × Int × Str)) × Int) ⊕ (K1 × List Int × (List (Int × Int × Str)) × Str × Int)) → Out:=(Sum.elim (fun t=>(.ret,[(6,(.int .i64 t.2.2.2))],[(.live 12 [[(ow 3 t.1.1.1.length),(ow 4 t.1.1.2.1.length),(.int .i64 t.1.1.2.2.1),(.bool t.1.1.2.2.2),(.int .i64 t.1.2.1.1),(.int .i64 t.1.2.1.2.1),(.int .i64 t.1.2.1.2.2.1),(.int .i64 t.1.2.1.2.2.2),(.int .i64 t.1.2.2.1),(.int .i64 t.1.2.2.2.1),(ow 5 t.1.2.2.2.2.1.length),(ow 6 t.1.2.2.2.2.2.length)]]),(ob 1 t.2.1),(ob 3 t.2.2.1),(ob 1 t.1.1.1),(ob 2 t.1.1.2.1),(ob 2 t.1.2.2.2.2.1),(ob 2 t.1.2.2.2.2.2)])) (fun t=>(.nrm,[(0,(.ptr 0 0 0)),(1,(ow 1 t.2.1.length)),(7,(.str t.2.2.2.1)),(8,(.int .i64 t.2.2.2.2))],[(.live 12 [[(ow 3 t.1.1.1.length),(ow 4 t.1.1.2.1.length),(.int .i64 t.1.1.2.2.1),(.bool t.1.1.2.2.2),(.int .i64 t.1.2.1.1),(.int .i64 t.1.2.1.2.1),(.int .i64 t.1.2.1.2.2.1),(.int .i64 t.1.2.1.2.2.2),(.int .i64 t.1.2.2.1),(.int .i64 t.1.2.2.2.1),(ow 5 t.1.2.2.2.2.1.length),(ow 6 t.1.2.2.2.2.2.length)]]),(ob 1 t.2.1),(ob 3 t.2.2.1),(ob 1 t.1.1.1),(ob 2 t.1.1.2.1),(ob 2 t.1.2.2.2.2.1),(ob 2 t.1.2.2.2.2.2)])))
def spec_l14Store_od0_p2 (v8:K1) (v9:List Int) (v10:List (Int × Int × Str)) (v11:Str) (v12:Int) (v13:Int):Option ((K1 × List Int × (List (Int × Int × Str)) × Int) ⊕ (K1 × List Int × (List (Int × Int × Str)) × Str × Int)):=(spec_l00Min 60 ((v11.length:Int))).bind fun r14=>(spec_l02Put v13 2 false).bind fun r15=>(spec_l02Put r14 2 false).bind fun r16=>if r15.length + r16.length ≤ 9223372036854775807 then (subL v11 none (some r14)).bind fun s17=>if ((r15 ++ r16)).length + s17.length ≤ 9223372036854775807 then (subL v11 (some r14) none).bind fun s18=>if 0 ≤ v12 ∧ v12 < ((v9.length:Nat):Int) then (v9[(v12).toNat]?).bind fun x19=>(spec_l01Pad (((r15 ++ r16) ++ s17)) 64).bind fun r20=>(spec_l12Set_oc8 v8 x19 r20).bind fun r21=>if ¬(r21.2 = true) then some ((.inl (r21.1,v9,v10,5))) else some ((.inr (r21.1,v9,v10,s18,v12))) else none else none else none
@[simp] theorem g36p2_eq (y0 y1 y2 y3 y4 y5 y6 y7 y8 y9 y10 y11)(y12:List Int)(y13 y14 y15 y16){n1:Nat}(h1:n1 = y12.length):X g36_S g36p2_c [(0,(.ptr 0 0 0)),(1,(ow 1 n1)),(7,(.str y14)),(8,(.int .i64 y15)),(9,(.int .i64 y16))] [(.live 12 [[(ow 3 y0.length),(ow 4 y1.length),(.int .i64 y2),(.bool y3),(.int .i64 y4),(.int .i64 y5),(.int .i64 y6),(.int .i64 y7),(.int .i64 y8),(.int .i64 y9),(ow 5 y10.length),(ow 6 y11.length)]]),(ob 1 y12),(ob 3 y13),(ob 1 y0),(ob 2 y1),(ob 2 y10),(ob 2 y11)] = (spec_l14Store_od0_p2 (((y0,y1,y2,y3),(y4,y5,y6,y7),y8,y9,y10,y11)) y12 y13 y14 y15 y16).map g36p2_F:=by
  subst h1
  simp (maxSteps:=2000000) (maxDischargeDepth:=8) -implicitDefEqProofs [g36p2_c,spec_l14Store_od0_p2] <;> (try simp only [map_to_bind,g36p2_F])
@[reducible,simp] def g36l1_F:((K1 × List Int × (List (Int × Int × Str))) ⊕ (K1 × List Int × (List (Int × Int × Str)) × Int)) → Out:=(Sum.elim (fun t=>(.ext 0,[],[(.live 12 [[(ow 3 t.1.1.1.length),(ow 4 t.1.1.2.1.length),(.int .i64 t.1.1.2.2.1),(.bool t.1.1.2.2.2),(.int .i64 t.1.2.1.1),(.int .i64 t.1.2.1.2.1),(.int .i64 t.1.2.1.2.2.1),(.int .i64 t.1.2.1.2.2.2),(.int .i64 t.1.2.2.1),(.int .i64 t.1.2.2.2.1),(ow 5 t.1.2.2.2.2.1.length),(ow 6 t.1.2.2.2.2.2.length)]]),(ob 1 t.2.1),(ob 3 t.2.2),(ob 1 t.1.1.1),(ob 2 t.1.1.2.1),(ob 2 t.1.2.2.2.2.1),(ob 2 t.1.2.2.2.2.2)])) (fun t=>(.ret,[(6,(.int .i64 t.2.2.2))],[(.live 12 [[(ow 3 t.1.1.1.length),(ow 4 t.1.1.2.1.length),(.int .i64 t.1.1.2.2.1),(.bool t.1.1.2.2.2),(.int .i64 t.1.2.1.1),(.int .i64 t.1.2.1.2.1),(.int .i64 t.1.2.1.2.2.1),(.int .i64 t.1.2.1.2.2.2),(.int .i64 t.1.2.2.1),(.int .i64 t.1.2.2.2.1),(ow 5 t.1.2.2.2.2.1.length),(ow 6 t.1.2.2.2.2.2.length)]]),(ob 1 t.2.1),(ob 3 t.2.2.1),(ob 1 t.1.1.1),(ob 2 t.1.1.2.1),(ob 2 t.1.2.2.2.2.1),(ob 2 t.1.2.2.2.2.2)])))
def spec_l14Store_od0_l1_b (v2:K1) (v3:List Int) (v4:List (Int × Int × Str)) (v5:Str) (v6:Int):Option ((K1 × List Int × (List (Int × Int × Str)) × Str × Int) ⊕ ((K1 × List Int × (List (Int × Int × Str))) ⊕ (K1 × List Int × (List (Int × Int × Str)) × Int))):=if v6 < ((v3.length:Nat):Int) then if (IntKind.i64.wrap (v6 + 1)) < ((v3.length:Nat):Int) then if 0 ≤ (IntKind.i64.wrap (v6 + 1)) ∧ (IntKind.i64.wrap (v6 + 1)) < ((v3.length:Nat):Int) then (v3[((IntKind.i64.wrap (v6 + 1))).toNat]?).bind fun x7=>(spec_l14Store_od0_p2 v2 v3 v4 v5 v6 x7).bind fun r22=>Sum.elim (fun u23=>some (.inr (.inr (u23.1,u23.2.1,u23.2.2.1,u23.2.2.2)))) (fun u24=>some (.inl (u24.1,u24.2.1,u24.2.2.1,u24.2.2.2.1,(IntKind.i64.wrap (u24.2.2.2.2 + 1))))) r22 else none else (spec_l14Store_od0_p2 v2 v3 v4 v5 v6 0).bind fun r25=>Sum.elim (fun u26=>some (.inr (.inr (u26.1,u26.2.1,u26.2.2.1,u26.2.2.2)))) (fun u27=>some (.inl (u27.1,u27.2.1,u27.2.2.1,u27.2.2.2.1,(IntKind.i64.wrap (u27.2.2.2.2 + 1))))) r25 else some (.inr (.inl (v2,v3,v4)))
theorem g36l1_b_eq  (v2:K1) (v3:List Int) (v4:List (Int × Int × Str)) (v5:Str) (v6:Int):X g36_S g36l1_cb (keepEnv [0,1,7,8] [(0,(.ptr 0 0 0)),(1,(ow 1 v3.length)),(7,(.str v5)),(8,(.int .i64 v6))]) [(.live 12 [[(ow 3 v2.1.1.length),(ow 4 v2.1.2.1.length),(.int .i64 v2.1.2.2.1),(.bool v2.1.2.2.2),(.int .i64 v2.2.1.1),(.int .i64 v2.2.1.2.1),(.int .i64 v2.2.1.2.2.1),(.int .i64 v2.2.1.2.2.2),(.int .i64 v2.2.2.1),(.int .i64 v2.2.2.2.1),(ow 5 v2.2.2.2.2.1.length),(ow 6 v2.2.2.2.2.2.length)]]),(ob 1 v3),(ob 3 v4),(ob 1 v2.1.1),(ob 2 v2.1.2.1),(ob 2 v2.2.2.2.2.1),(ob 2 v2.2.2.2.2.2)] = (spec_l14Store_od0_l1_b v2 v3 v4 v5 v6).map (Sum.elim (fun s=>(TX.nrm,[(0,(.ptr 0 0 0)),(1,(ow 1 s.2.1.length)),(7,(.str s.2.2.2.1)),(8,(.int .i64 s.2.2.2.2))],[(.live 12 [[(ow 3 s.1.1.1.length),(ow 4 s.1.1.2.1.length),(.int .i64 s.1.1.2.2.1),(.bool s.1.1.2.2.2),(.int .i64 s.1.2.1.1),(.int .i64 s.1.2.1.2.1),(.int .i64 s.1.2.1.2.2.1),(.int .i64 s.1.2.1.2.2.2),(.int .i64 s.1.2.2.1),(.int .i64 s.1.2.2.2.1),(ow 5 s.1.2.2.2.2.1.length),(ow 6 s.1.2.2.2.2.2.length)]]),(ob 1 s.2.1),(ob 3 s.2.2.1),(ob 1 s.1.1.1),(ob 2 s.1.1.2.1),(ob 2 s.1.2.2.2.2.1),(ob 2 s.1.2.2.2.2.2)])) g36l1_F):=by
  simp (maxSteps:=2000000) (maxDischargeDepth:=8) -implicitDefEqProofs [g36l1_cb,spec_l14Store_od0_l1_b] <;> (try simp only [map_to_bind,g36l1_F])
def spec_l14Store_od0_l1  (s:K1 × List Int × (List (Int × Int × Str)) × Str × Int):Option ((K1 × List Int × (List (Int × Int × Str))) ⊕ (K1 × List Int × (List (Int × Int × Str)) × Int)):=loopO (fun s=>spec_l14Store_od0_l1_b  s.1 s.2.1 s.2.2.1 s.2.2.2.1 s.2.2.2.2) s
@[simp] theorem g36l1_eq (y0 y1 y2 y3 y4 y5 y6 y7 y8 y9 y10 y11)(y12:List Int)(y13 y14 y15){n1:Nat}(h1:n1 = y12.length):X g36_S g36l1_c [(0,(.ptr 0 0 0)),(1,(ow 1 n1)),(7,(.str y14)),(8,(.int .i64 y15))] [(.live 12 [[(ow 3 y0.length),(ow 4 y1.length),(.int .i64 y2),(.bool y3),(.int .i64 y4),(.int .i64 y5),(.int .i64 y6),(.int .i64 y7),(.int .i64 y8),(.int .i64 y9),(ow 5 y10.length),(ow 6 y11.length)]]),(ob 1 y12),(ob 3 y13),(ob 1 y0),(ob 2 y1),(ob 2 y10),(ob 2 y11)] = (spec_l14Store_od0_l1  (((y0,y1,y2,y3),(y4,y5,y6,y7),y8,y9,y10,y11),y12,y13,y14,y15)).map g36l1_F:=by
  subst h1
  exact loop_X _ _ _ _ (by intro r; first | (simp; done) | (rcases r with r | r <;> simp; done) | (rcases r with r | r | r <;> simp; done) | (rcases r with r | r | r | r <;> simp)) (fun s=>g36l1_b_eq   s.1 s.2.1 s.2.2.1 s.2.2.2.1 s.2.2.2.2) (((y0,y1,y2,y3),(y4,y5,y6,y7),y8,y9,y10,y11),y12,y13,y14,y15)
def spec_l14Store_od0 (a1:K1) (a2:List Int) (a3:Int) (a4:Int) (a5:List (Int × Int × Str)):Option (K1 × List Int × (List (Int × Int × Str)) × Int):=(spec_l14Encode ((a3,a4,a5))).bind fun r1=>(spec_l14Store_od0_l1 ((a1,a2,a5,r1,0))).bind fun r28=>Sum.elim (fun u29=>some (u29.1,u29.2.1,u29.2.2,0)) (fun u30=>some (u30.1,u30.2.1,u30.2.2.1,u30.2.2.2)) r28
@[simp] def g36_O:(K1 × List Int × (List (Int × Int × Str)) × Int) → TV × List Blk:=fun r=>((.int .i64 r.2.2.2),[(.live 12 [[(ow 3 r.1.1.1.length),(ow 4 r.1.1.2.1.length),(.int .i64 r.1.1.2.2.1),(.bool r.1.1.2.2.2),(.int .i64 r.1.2.1.1),(.int .i64 r.1.2.1.2.1),(.int .i64 r.1.2.1.2.2.1),(.int .i64 r.1.2.1.2.2.2),(.int .i64 r.1.2.2.1),(.int .i64 r.1.2.2.2.1),(ow 5 r.1.2.2.2.2.1.length),(ow 6 r.1.2.2.2.2.2.length)]]),(ob 1 r.2.1),(ob 3 r.2.2.1),(ob 1 r.1.1.1),(ob 2 r.1.1.2.1),(ob 2 r.1.2.2.2.2.1),(ob 2 r.1.2.2.2.2.2)])
abbrev g36_T:=K1 × List Int × Int × Int × (List (Int × Int × Str))
def g36_E (a:g36_T):List TV:=[(.ptr 0 0 0),(ow 1 a.2.1.length),(.agg [(.int .i64 a.2.2.1),(.int .i64 a.2.2.2.1),(ow 2 a.2.2.2.2.length)])]
def g36_B (a:g36_T):List Blk:=[(.live 12 [[(ow 3 a.1.1.1.length),(ow 4 a.1.1.2.1.length),(.int .i64 a.1.1.2.2.1),(.bool a.1.1.2.2.2),(.int .i64 a.1.2.1.1),(.int .i64 a.1.2.1.2.1),(.int .i64 a.1.2.1.2.2.1),(.int .i64 a.1.2.1.2.2.2),(.int .i64 a.1.2.2.1),(.int .i64 a.1.2.2.2.1),(ow 5 a.1.2.2.2.2.1.length),(ow 6 a.1.2.2.2.2.2.length)]]),(ob 1 a.2.1),(ob 3 a.2.2.2.2),(ob 1 a.1.1.1),(ob 2 a.1.1.2.1),(ob 2 a.1.2.2.2.2.1),(ob 2 a.1.2.2.2.2.2)]
theorem g36_run (a1:K1) (a2:List Int) (a3:Int) (a4:Int) (a5:List (Int × Int × Str)):callFn (X g36_S) g36_tf (g36_E (a1,a2,a3,a4,a5)) (g36_B (a1,a2,a3,a4,a5)) = (spec_l14Store_od0 a1 a2 a3 a4 a5).map g36_O:=by
  rw [callFn_eq]
  simp (maxSteps:=2000000) (maxDischargeDepth:=8) -implicitDefEqProofs [g36_tf,spec_l14Store_od0,g36_E,g36_B] <;> (try simp only [map_to_bind,g36_O])
def g36_r:MRule:=RmO g36_E g36_B (fun a=>(spec_l14Store_od0 a.1 a.2.1 a.2.2.1 a.2.2.2.1 a.2.2.2.2).bind fun r=>if r.2.1.length = a.2.1.length ∧ r.2.2.1.length = a.2.2.2.2.length then some (r.1,(fixLen a.2.1 r.2.1),(fixLen a.2.2.2.2 r.2.2.1),r.2.2.2) else none) g36_O
theorem g36_ok0:MRuleOk Tryz.prog 127 3 (RmO g36_E g36_B (fun a=>spec_l14Store_od0 a.1 a.2.1 a.2.2.1 a.2.2.2.1 a.2.2.2.2) g36_O):=ok_rmo (S:=g36_S) (tf:=g36_tf) (SysOk.on ⟨g69_ok,g126_ok,g124_ok,g127_ok,trivial⟩ ⟨g53_ok,trivial⟩) (trE_ok (ks:=[[0,1,7,8],[8],[7]]) Tryz.func127 (by kernel_rfl)) (by rfl) (fun _=>by simp [g36_B]) (fun _=>by simp) fun a=>g36_run a.1 a.2.1 a.2.2.1 a.2.2.2.1 a.2.2.2.2
theorem g36_ok:MRuleOk Tryz.prog 127 3 g36_r:=g36_ok0.weak fun a r hr=>by
  simp only [Option.bind_eq_some_iff] at hr
  obtain ⟨x,h1,h2⟩:=hr
  split at h2
  · rename_i hc
    simp only [Option.some.injEq] at h2
    rw [h1,← h2]
    simp [fixLen,hc]
  · cases h2
@[simp] theorem g36_app (y0:List Str)(y1:List (Int × Str))(y2 y3 y4 y5 y6 y7 y8 y9)(y10:List (Int × Str))(y11:List (Int × Str))(y12:List Int)(y13 y14)(y15:List (Int × Int × Str)){n1:Nat}(h1:n1 = y12.length){n2:Nat}(h2:n2 = y15.length){n3:Nat}(h3:n3 = y0.length){n4:Nat}(h4:n4 = y1.length){n5:Nat}(h5:n5 = y10.length){n6:Nat}(h6:n6 = y11.length):g36_r [(.ptr 0 0 0),(ow 1 n1),(.agg [(.int .i64 y13),(.int .i64 y14),(ow 2 n2)])] [(.live 12 [[(ow 3 n3),(ow 4 n4),(.int .i64 y2),(.bool y3),(.int .i64 y4),(.int .i64 y5),(.int .i64 y6),(.int .i64 y7),(.int .i64 y8),(.int .i64 y9),(ow 5 n5),(ow 6 n6)]]),(ob 1 y12),(ob 3 y15),(ob 1 y0),(ob 2 y1),(ob 2 y10),(ob 2 y11)] = ((spec_l14Store_od0 (((y0,y1,y2,y3),(y4,y5,y6,y7),y8,y9,y10,y11)) y12 y13 y14 y15).bind fun r=>if r.2.1.length = y12.length ∧ r.2.2.1.length = y15.length then some (r.1,(fixLen y12 r.2.1),(fixLen y15 r.2.2.1),r.2.2.2) else none).map g36_O:=by
  subst h1 h2 h3 h4 h5 h6
  exact RmO_app (enc:=g36_E) (encB:=g36_B) (by intro a b h h2; simp [g36_E,g36_B,Prod.ext_iff] at h h2 ⊢; simp [h,h2]) (((y0,y1,y2,y3),(y4,y5,y6,y7),y8,y9,y10,y11),y12,y13,y14,y15)
/-! spec.l14Create -/
def g30_tf:TFn:=⟨(.seq (.ops [bx 3 1,oo 4 (.mv (ki 0)),oo 5 (.mv (ki 0))]) (.trim [0,3] (.seq (.ops [mo 9 0,oo 10 (.bslice [(.int .i64 0)] 0 []),ln 11 3 3,ca 12 126 [.t 11],oo 13 (.callM 125 0 [0,2,3,4,5] [.t 9,.t 10,.t 12]),mo 8 13,oo 14 (.ext (.t 8) 0),oo 15 (.ext (.t 8) 1),mo 6 14,mo 7 15]) (.trim [0,3,6,7] (.seq (.seq (.ops [mo 16 7,bn 17 .neq (.t 16) (ki 0)]) (.trim [0,3,6,7,17] (.cond (.t 17) (.seq (.ops [mo 18 7,oo 4 (.mv (ki 0)),mo 5 18]) (.keep ⟨[(4,0),(5,0)],[(0,2),(1,1),(7,1),(8,1),(9,1),(10,1)],2⟩ .ret)) .skip))) (.trim [0,3,6] (.seq (.ops [mo 19 0,mo 20 6,ln 21 3 3,oo 22 (.callM 127 0 [0,11,1,7,8,9,10] [.t 19,.t 20,.t 21]),mo 7 22]) (.trim [6,7] (.seq (.seq (.ops [mo 23 7,bn 24 .neq (.t 23) (ki 0)]) (.trim [6,7,24] (.cond (.t 24) (.seq (.ops [mo 25 7,oo 4 (.mv (ki 0)),mo 5 25]) (.keep ⟨[(4,0),(5,0)],[(0,2),(1,1),(12,1),(13,1),(14,1),(15,1)],2⟩ .ret)) .skip))) (.trim [6] (.seq (.ops [mo 26 6,oo 27 (.iaddr 1 (.t 26) (ki 0)),ld 28 27,mo 4 28,oo 5 (.mv (ki 0))]) (.keep ⟨[(4,0),(5,0)],[(0,2),(1,1),(12,1),(13,1),(14,1),(15,1)],2⟩ .ret)))))))))))),[.t 4,.t 5]⟩
abbrev g30_S:=Sys.on [(126,g104_r)] [((125,0),(1,g47_r)),((127,0),(3,g36_r))]
def spec_l14Create_o5b (a1:K1) (a2:Int) (a3:Int) (a4:List (Int × Int × Str)):Option (K1 × (List (Int × Int × Str)) × Int × Int):=(spec_l14Need ((a2,a3,a4))).bind fun r1=>(spec_l14Grow_ob7 a1 r1).bind fun r2=>if ¬(r2.2.2 = 0) then some (r2.1,a4,0,r2.2.2) else (spec_l14Store_od0 r2.1 r2.2.1 a2 a3 a4).bind fun r3=>if r3.2.1.length = r2.2.1.length ∧ r3.2.2.1.length = a4.length then if ¬(r3.2.2.2 = 0) then some (r3.1,(fixLen a4 r3.2.2.1),0,r3.2.2.2) else if 0 ≤ (0:Int) ∧ (0:Int) < ((r2.2.1.length:Nat):Int) then (((fixLen r2.2.1 r3.2.1))[((0:Int)).toNat]?).bind fun x4=>some (r3.1,(fixLen a4 r3.2.2.1),x4,0) else none else none
@[simp] def g30_O:(K1 × (List (Int × Int × Str)) × Int × Int) → TV × List Blk:=fun r=>((.tup [(.int .i64 r.2.2.1),(.int .i64 r.2.2.2)]),[(.live 12 [[(ow 2 r.1.1.1.length),(ow 3 r.1.1.2.1.length),(.int .i64 r.1.1.2.2.1),(.bool r.1.1.2.2.2),(.int .i64 r.1.2.1.1),(.int .i64 r.1.2.1.2.1),(.int .i64 r.1.2.1.2.2.1),(.int .i64 r.1.2.1.2.2.2),(.int .i64 r.1.2.2.1),(.int .i64 r.1.2.2.2.1),(ow 4 r.1.2.2.2.2.1.length),(ow 5 r.1.2.2.2.2.2.length)]]),(ob 3 r.2.1),(ob 1 r.1.1.1),(ob 2 r.1.1.2.1),(ob 2 r.1.2.2.2.2.1),(ob 2 r.1.2.2.2.2.2)])
abbrev g30_T:=K1 × Int × Int × (List (Int × Int × Str))
def g30_E (a:g30_T):List TV:=[(.ptr 0 0 0),(.agg [(.int .i64 a.2.1),(.int .i64 a.2.2.1),(ow 1 a.2.2.2.length)])]
def g30_B (a:g30_T):List Blk:=[(.live 12 [[(ow 2 a.1.1.1.length),(ow 3 a.1.1.2.1.length),(.int .i64 a.1.1.2.2.1),(.bool a.1.1.2.2.2),(.int .i64 a.1.2.1.1),(.int .i64 a.1.2.1.2.1),(.int .i64 a.1.2.1.2.2.1),(.int .i64 a.1.2.1.2.2.2),(.int .i64 a.1.2.2.1),(.int .i64 a.1.2.2.2.1),(ow 4 a.1.2.2.2.2.1.length),(ow 5 a.1.2.2.2.2.2.length)]]),(ob 3 a.2.2.2),(ob 1 a.1.1.1),(ob 2 a.1.1.2.1),(ob 2 a.1.2.2.2.2.1),(ob 2 a.1.2.2.2.2.2)]
theorem g30_run (a1:K1) (a2:Int) (a3:Int) (a4:List (Int × Int × Str)):callFn (X g30_S) g30_tf (g30_E (a1,a2,a3,a4)) (g30_B (a1,a2,a3,a4)) = (spec_l14Create_o5b a1 a2 a3 a4).map g30_O:=by
  rw [callFn_eq]
  simp (maxSteps:=2000000) (maxDischargeDepth:=8) -implicitDefEqProofs [g30_tf,spec_l14Create_o5b,g30_E,g30_B] <;> (try simp only [map_to_bind,g30_O])
def g30_r:MRule:=RmO g30_E g30_B (fun a=>(spec_l14Create_o5b a.1 a.2.1 a.2.2.1 a.2.2.2).bind fun r=>if r.2.1.length = a.2.2.2.length then some (r.1,(fixLen a.2.2.2 r.2.1),r.2.2.1,r.2.2.2) else none) g30_O
theorem g30_ok0:MRuleOk Tryz.prog 79 2 (RmO g30_E g30_B (fun a=>spec_l14Create_o5b a.1 a.2.1 a.2.2.1 a.2.2.2) g30_O):=ok_rmo (S:=g30_S) (tf:=g30_tf) (SysOk.on ⟨g104_ok,trivial⟩ ⟨g47_ok,g36_ok,trivial⟩) (trE_ok (ks:=[]) Tryz.func79 (by kernel_rfl)) (by rfl) (fun _=>by simp [g30_B]) (fun _=>by simp) fun a=>g30_run a.1 a.2.1 a.2.2.1 a.2.2.2
theorem g30_ok:MRuleOk Tryz.prog 79 2 g30_r:=g30_ok0.weak fun a r hr=>by
  simp only [Option.bind_eq_some_iff] at hr
  obtain ⟨x,h1,h2⟩:=hr
  split at h2
  · rename_i hc
    simp only [Option.some.injEq] at h2
    rw [h1,← h2]
    simp [fixLen,hc]
  · cases h2
@[simp] theorem g30_app (y0:List Str)(y1:List (Int × Str))(y2 y3 y4 y5 y6 y7 y8 y9)(y10:List (Int × Str))(y11:List (Int × Str))(y12 y13)(y14:List (Int × Int × Str)){n1:Nat}(h1:n1 = y14.length){n2:Nat}(h2:n2 = y0.length){n3:Nat}(h3:n3 = y1.length){n4:Nat}(h4:n4 = y10.length){n5:Nat}(h5:n5 = y11.length):g30_r [(.ptr 0 0 0),(.agg [(.int .i64 y12),(.int .i64 y13),(ow 1 n1)])] [(.live 12 [[(ow 2 n2),(ow 3 n3),(.int .i64 y2),(.bool y3),(.int .i64 y4),(.int .i64 y5),(.int .i64 y6),(.int .i64 y7),(.int .i64 y8),(.int .i64 y9),(ow 4 n4),(ow 5 n5)]]),(ob 3 y14),(ob 1 y0),(ob 2 y1),(ob 2 y10),(ob 2 y11)] = ((spec_l14Create_o5b (((y0,y1,y2,y3),(y4,y5,y6,y7),y8,y9,y10,y11)) y12 y13 y14).bind fun r=>if r.2.1.length = y14.length then some (r.1,(fixLen y14 r.2.1),r.2.2.1,r.2.2.2) else none).map g30_O:=by
  subst h1 h2 h3 h4 h5
  exact RmO_app (enc:=g30_E) (encB:=g30_B) (by intro a b h h2; simp [g30_E,g30_B,Prod.ext_iff] at h h2 ⊢; simp [h,h2]) (((y0,y1,y2,y3),(y4,y5,y6,y7),y8,y9,y10,y11),y12,y13,y14)
/-! spec.l01Bytes -/
def g86l1_cb:TC:=(.seq (.seq (.ops [mo 8 6,mo 9 1,bn 10 .lss (.t 8) (.t 9)]) (.trim [0,1,5,6,10] (.cond (.t 10) .skip (.keep ⟨[(5,1)],[(0,1)],0⟩ (.exit 0))))) (.trim [0,1,5,6] (.seq (.block 1 (.ops [mo 13 5,mo 14 0,mo 15 6,oo 16 (.conv (.toInt .u64) (.t 15)),oo 17 (.bin .num .mul (.c (.int .u64 8)) (.t 16)),bn 18 .shr (.t 14) (.t 17),bn 19 .and (.t 18) (ki 255),oo 20 (.conv (.toInt .u8) (.t 19)),oo 21 (.bslice [(.int .u8 0)] 1 [(0,(.t 20))]),oo 22 (.append 5 1 1 (.t 13) (.t 21)),mo 5 22])) (.trim [0,1,5,6] (.after (.ops [mo 11 6,bn 12 .add (.t 11) (ki 1),mo 6 12]) ⟨[(0,0),(1,0),(5,1),(6,0)],[(2,1)],0⟩)))))
def g86l1_c:TC:=.loop [0,1,5,6] g86l1_cb
def g86_tf:TFn:=⟨(.seq (.ops [oo 4 (.mv (.c (.str [])))]) (.trim [0,1] (.seq (.ops [oo 7 (.bslice [(.int .u8 0)] 0 []),mo 5 7]) (.trim [0,1,5] (.seq (.seq (.ops [oo 6 (.mv (ki 0))]) (.trim [0,1,5,6] (.block 0 (.keep ⟨[(0,0),(1,0),(5,1),(6,0)],[(1000,1)],0⟩ g86l1_c)))) (.trim [5] (.seq (.ops [mo 23 5,oo 24 (.conv .toStr (.t 23)),mo 4 24]) (.keep ⟨[(4,0)],[],0⟩ .ret)))))))),[.t 4]⟩
abbrev g86_S:=Sys.on [] []
@[reducible,simp] def g86l1_F:(List Bt) → Out:=(fun t=>(.ext 0,[(5,(ow 0 t.length))],[(ob 1 t)]))
def spec_l01Bytes_l1_b (v1:Int) (v2:Int) (v3:List Bt) (v4:Int):Option ((List Bt × Int) ⊕ (List Bt)):=if v4 < v2 then if (IntKind.u64.wrap (8 * ((IntKind.u64.wrap v4)))) < 0 then none else (appL 1 v3 ((lit [(⟨UInt8.ofNat ((IntKind.u8.wrap ((bitV .and .i64 ((shrV .i64 v1 ((IntKind.u64.wrap (8 * ((IntKind.u64.wrap v4))))))) 255)))).toNat⟩:Bt)]:List Bt))).bind fun l5=>some (.inl (l5,(IntKind.i64.wrap (v4 + 1)))) else some (.inr v3)
theorem g86l1_b_eq  (v1:Int) (v2:Int) (v3:List Bt) (v4:Int):X g86_S g86l1_cb (keepEnv [0,1,5,6] [(0,(.int .i64 v1)),(1,(.int .i64 v2)),(5,(ow 0 v3.length)),(6,(.int .i64 v4))]) [(ob 1 v3)] = (spec_l01Bytes_l1_b v1 v2 v3 v4).map (Sum.elim (fun s=>(TX.nrm,[(0,(.int .i64 v1)),(1,(.int .i64 v2)),(5,(ow 0 s.1.length)),(6,(.int .i64 s.2))],[(ob 1 s.1)])) g86l1_F):=by
  simp (maxSteps:=2000000) (maxDischargeDepth:=8) -implicitDefEqProofs [g86l1_cb,spec_l01Bytes_l1_b,bslV_lit (α:=Bt) (zs:=[(.int .u8 0)])] <;> (try simp only [map_to_bind,g86l1_F])
def spec_l01Bytes_l1 (v1:Int) (v2:Int) (s:List Bt × Int):Option (List Bt):=loopO (fun s=>spec_l01Bytes_l1_b v1 v2 s.1 s.2) s
@[simp] theorem g86l1_eq (y0 y1)(y2:List Bt)(y3){n1:Nat}(h1:n1 = y2.length):X g86_S g86l1_c [(0,(.int .i64 y0)),(1,(.int .i64 y1)),(5,(ow 0 n1)),(6,(.int .i64 y3))] [(ob 1 y2)] = (spec_l01Bytes_l1 y0 y1 (y2,y3)).map g86l1_F:=by
  subst h1
  exact loop_X _ _ _ _ (by intro r; first | (simp; done) | (rcases r with r | r <;> simp; done) | (rcases r with r | r | r <;> simp; done) | (rcases r with r | r | r | r <;> simp)) (fun s=>g86l1_b_eq  y0 y1 s.1 s.2) (y2,y3)
@[simp] theorem g86l1_eq_2 (y0 y1 y2):X g86_S g86l1_c [(0,(.int .i64 y0)),(1,(.int .i64 y1)),(5,.es),(6,(.int .i64 y2))] [.dead] = (spec_l01Bytes_l1 y0 y1 (([]:List Bt),y2)).map g86l1_F :=
  g86l1_eq  y0 y1 ([]:List Bt) y2 rfl
def spec_l01Bytes (a_n:Int) (a_size:Int):Option (Str):=(spec_l01Bytes_l1 a_n a_size ((([]:List Bt),0))).bind fun r6=>some ((r6.map Bt.v))
@[simp] def g86_O:Str → TV × List Blk:=fun r=>((.str r),[])
def g86_E (a:Int × Int):List TV:=[(.int .i64 a.1),(.int .i64 a.2)]
theorem g86_run (a_n:Int) (a_size:Int) :callFn (X g86_S) g86_tf (g86_E (a_n,a_size)) [] = (spec_l01Bytes a_n a_size).map g86_O:=by
  rw [callFn_eq]
  simp (maxSteps:=2000000) (maxDischargeDepth:=8) -implicitDefEqProofs [g86_tf,spec_l01Bytes,g86_E,bslV_lit (α:=Bt) (zs:=[(.int .u8 0)])] <;> (try simp only [map_to_bind,g86_O])
def g86_r:Rule:=RlO g86_E (fun a=>spec_l01Bytes a.1 a.2) g86_O
theorem g86_ok:RuleOk Tryz.prog 82 g86_r:=ok_rlo (S:=g86_S) (tf:=g86_tf) (SysOk.on trivial trivial) (trE_ok (ks:=[[0,1,5,6]]) Tryz.func82 (by kernel_rfl)) fun a=>g86_run a.1 a.2
@[simp] theorem g86_app (y0 y1):g86_r [(.int .i64 y0),(.int .i64 y1)] = (spec_l01Bytes y0 y1).map g86_O :=
  RlO_app (enc:=g86_E) (by intro a b h; simp [g86_E,Prod.ext_iff] at h ⊢; simp [h]) (y0,y1)
/-! spec.l17Format -/
def g31_tf:TFn:=⟨(.seq (.ops [oo 2 (.mv (ki 0))]) (.trim [0] (.seq (.seq (.ops [mo 5 0,ca 6 78 [.t 5],bn 7 .neq (.t 6) (ki 0)]) (.trim [0,7] (.cond (.t 7) (.seq (.ops [oo 2 (.mv (ki 6))]) (.keep ⟨[(2,0)],[(0,2),(1,1),(2,1),(3,1),(4,1)],1⟩ .ret)) .skip))) (.trim [0] (.seq (.ops [mo 9 0,ca 10 80 [],oo 11 (.callM 79 0 [0,6,1,2,3,4] [.t 9,.t 10]),mo 8 11,oo 12 (.ext (.t 8) 0),oo 13 (.ext (.t 8) 1),mo 3 12,mo 4 13]) (.trim [0,3,4] (.seq (.seq (.ops [mo 14 4,bn 15 .neq (.t 14) (ki 0)]) (.trim [0,3,4,15] (.cond (.t 15) (.seq (.ops [mo 16 4,mo 2 16]) (.keep ⟨[(2,0)],[(0,2),(7,1),(8,1),(9,1),(10,1)],1⟩ .ret)) .skip))) (.trim [0,3] (.seq (.ops [mo 17 0,mo 18 3,ca 19 82 [.t 18,ki 2],mo 20 0,ca 21 83 [.t 20],oo 22 (.sliceS (.t 21) (some (ki 2)) none),oo 23 (.bin .str .add (.t 19) (.t 22)),oo 24 (.callM 81 0 [0,7,8,9,10] [.t 17,.t 23]),mo 2 24]) (.keep ⟨[(2,0)],[(0,2),(11,1),(12,1),(13,1),(14,1)],1⟩ .ret)))))))))),[.t 2]⟩
abbrev g31_S:=Sys.on [(78,g102_r),(80,g83_r),(82,g86_r),(83,g101_r)] [((79,0),(2,g30_r)),((81,0),(1,g54_r))]
def spec_l17Format_o19 (a1:K1):Option (K1 × Int):=(spec_l13Root a1).bind fun r1=>if ¬(r1 = 0) then some (a1,6) else (spec_l17Empty).bind fun r2=>(spec_l14Create_o5b a1 r2.1 r2.2.1 r2.2.2).bind fun r3=>if r3.2.1.length = r2.2.2.length then if ¬(r3.2.2.2 = 0) then some (r3.1,r3.2.2.2) else (spec_l01Bytes r3.2.2.1 2).bind fun r4=>(spec_l13Area r3.1).bind fun r5=>(subL r5 (some 2) none).bind fun s6=>if r4.length + s6.length ≤ 9223372036854775807 then (spec_l13Put_oea r3.1 ((r4 ++ s6))).bind fun r7=>some (r7.1,r7.2) else none else none
@[simp] def g31_O:(K1 × Int) → TV × List Blk:=fun r=>((.int .i64 r.2),[(.live 12 [[(ow 1 r.1.1.1.length),(ow 2 r.1.1.2.1.length),(.int .i64 r.1.1.2.2.1),(.bool r.1.1.2.2.2),(.int .i64 r.1.2.1.1),(.int .i64 r.1.2.1.2.1),(.int .i64 r.1.2.1.2.2.1),(.int .i64 r.1.2.1.2.2.2),(.int .i64 r.1.2.2.1),(.int .i64 r.1.2.2.2.1),(ow 3 r.1.2.2.2.2.1.length),(ow 4 r.1.2.2.2.2.2.length)]]),(ob 1 r.1.1.1),(ob 2 r.1.1.2.1),(ob 2 r.1.2.2.2.2.1),(ob 2 r.1.2.2.2.2.2)])
abbrev g31_T:=K1
def g31_E (a:g31_T):List TV:=[(.ptr 0 0 0)]
def g31_B (a:g31_T):List Blk:=[(.live 12 [[(ow 1 a.1.1.length),(ow 2 a.1.2.1.length),(.int .i64 a.1.2.2.1),(.bool a.1.2.2.2),(.int .i64 a.2.1.1),(.int .i64 a.2.1.2.1),(.int .i64 a.2.1.2.2.1),(.int .i64 a.2.1.2.2.2),(.int .i64 a.2.2.1),(.int .i64 a.2.2.2.1),(ow 3 a.2.2.2.2.1.length),(ow 4 a.2.2.2.2.2.length)]]),(ob 1 a.1.1),(ob 2 a.1.2.1),(ob 2 a.2.2.2.2.1),(ob 2 a.2.2.2.2.2)]
theorem g31_run (a1:K1):callFn (X g31_S) g31_tf (g31_E a1) (g31_B a1) = (spec_l17Format_o19 a1).map g31_O:=by
  rw [callFn_eq]
  simp (maxSteps:=2000000) (maxDischargeDepth:=8) -implicitDefEqProofs [g31_tf,spec_l17Format_o19,g31_E,g31_B] <;> (try simp only [map_to_bind,g31_O])
def g31_r:MRule:=RmO g31_E g31_B (fun a=>spec_l17Format_o19 a) g31_O
theorem g31_ok:MRuleOk Tryz.prog 33 1 g31_r:=ok_rmo (S:=g31_S) (tf:=g31_tf) (SysOk.on ⟨g102_ok,g83_ok,g86_ok,g101_ok,trivial⟩ ⟨g30_ok,g54_ok,trivial⟩) (trE_ok (ks:=[]) Tryz.func33 (by kernel_rfl)) (by rfl) (fun _=>by simp [g31_B]) (fun _=>by simp) fun a=>g31_run a
@[simp] theorem g31_app (y0:List Str)(y1:List (Int × Str))(y2 y3 y4 y5 y6 y7 y8 y9)(y10:List (Int × Str))(y11:List (Int × Str)){n1:Nat}(h1:n1 = y0.length){n2:Nat}(h2:n2 = y1.length){n3:Nat}(h3:n3 = y10.length){n4:Nat}(h4:n4 = y11.length):g31_r [(.ptr 0 0 0)] [(.live 12 [[(ow 1 n1),(ow 2 n2),(.int .i64 y2),(.bool y3),(.int .i64 y4),(.int .i64 y5),(.int .i64 y6),(.int .i64 y7),(.int .i64 y8),(.int .i64 y9),(ow 3 n3),(ow 4 n4)]]),(ob 1 y0),(ob 2 y1),(ob 2 y10),(ob 2 y11)] = (spec_l17Format_o19 (((y0,y1,y2,y3),(y4,y5,y6,y7),y8,y9,y10,y11))).map g31_O:=by
  subst h1 h2 h3 h4
  exact RmO_app (enc:=g31_E) (encB:=g31_B) (by intro a b h h2; simp [g31_E,g31_B,Prod.ext_iff] at h h2 ⊢; simp [h,h2]) (((y0,y1,y2,y3),(y4,y5,y6,y7),y8,y9,y10,y11))
/-! spec.FormatGroups -/
def g37_tf:TFn:=⟨(.seq (.ops [bx 1 0,oo 2 (.alloc [.nils,.nils,(.int .i64 0),(.bool false),(.int .i64 0),(.int .i64 0),(.int .i64 0),(.int .i64 0),(.int .i64 0),(.int .i64 0),.nils,.nils]),oo 3 (.mv (ki 0))]) (.trim [1,2] (.seq (.seq (.ops [ca 6 31 [.t 1],nt 7 6]) (.trim [1,2,7] (.cond (.t 7) (.seq (.ops [oo 8 (.build [.nils,.nils,(.int .i64 0),(.bool false),(.int .i64 0),(.int .i64 0),(.int .i64 0),(.int .i64 0),(.int .i64 0),(.int .i64 0),.nils,.nils] []),⟨none,none,(.store 12 (.t 2) (.t 8))⟩,oo 3 (.mv (ki 1))]) (.keep ⟨[(2,0),(3,0)],[(1,2),(1000,1),(1001,1),(1002,1),(1003,1)],0⟩ .ret)) .skip))) (.trim [1,2] (.seq (.ops [ca 9 32 [.t 1],oo 4 (.alloc [.nils,.nils,(.int .i64 0),(.bool false),(.int .i64 0),(.int .i64 0),(.int .i64 0),(.int .i64 0),(.int .i64 0),(.int .i64 0),.nils,.nils]),⟨none,none,(.store 12 (.t 4) (.t 9))⟩]) (.trim [2,4] (.seq (.ops [oo 10 (.callM 33 0 [7,3,4,5,6] [.t 4]),mo 5 10]) (.trim [2,4,5] (.seq (.seq (.ops [mo 11 5,bn 12 .neq (.t 11) (ki 0)]) (.trim [2,4,5,12] (.cond (.t 12) (.seq (.ops [oo 13 (.build [.nils,.nils,(.int .i64 0),(.bool false),(.int .i64 0),(.int .i64 0),(.int .i64 0),(.int .i64 0),(.int .i64 0),(.int .i64 0),.nils,.nils] []),mo 14 5,⟨none,none,(.store 12 (.t 2) (.t 13))⟩,mo 3 14]) (.keep ⟨[(2,0),(3,0)],[(1,2),(1000,1),(1001,1),(1002,1),(1003,1)],0⟩ .ret)) .skip))) (.trim [2,4] (.seq (.ops [ln 15 12 4,⟨none,none,(.store 12 (.t 2) (.t 15))⟩,oo 3 (.mv (ki 0))]) (.keep ⟨[(2,0),(3,0)],[(1,2),(8,1),(9,1),(10,1),(11,1)],0⟩ .ret)))))))))))),[.cell 2 (some 12),.t 3]⟩
abbrev g37_S:=Sys.on [(31,g138_r),(32,g122_r)] [((33,0),(1,g31_r))]
def spec_FormatGroups (a_p:K1):Option (K1 × Int):=(spec_l12Ok a_p).bind fun r1=>if ¬(r1 = true) then some (((([]:List Str),([]:List (Int × Str)),0,false),(0,0,0,0),0,0,([]:List (Int × Str)),([]:List (Int × Str))),1) else (spec_l12Own a_p).bind fun r2=>(spec_l17Format_o19 r2).bind fun r3=>if ¬(r3.2 = 0) then some (((([]:List Str),([]:List (Int × Str)),0,false),(0,0,0,0),0,0,([]:List (Int × Str)),([]:List (Int × Str))),r3.2) else some (r3.1,0)
@[simp] def g37_O:(K1 × Int) → TV × List Blk:=fun r=>((.tup [(.agg [(ow 1 r.1.1.1.length),(ow 2 r.1.1.2.1.length),(.int .i64 r.1.1.2.2.1),(.bool r.1.1.2.2.2),(.int .i64 r.1.2.1.1),(.int .i64 r.1.2.1.2.1),(.int .i64 r.1.2.1.2.2.1),(.int .i64 r.1.2.1.2.2.2),(.int .i64 r.1.2.2.1),(.int .i64 r.1.2.2.2.1),(ow 3 r.1.2.2.2.2.1.length),(ow 4 r.1.2.2.2.2.2.length)]),(.int .i64 r.2)]),[(.live 12 [[(ow 1 r.1.1.1.length),(ow 2 r.1.1.2.1.length),(.int .i64 r.1.1.2.2.1),(.bool r.1.1.2.2.2),(.int .i64 r.1.2.1.1),(.int .i64 r.1.2.1.2.1),(.int .i64 r.1.2.1.2.2.1),(.int .i64 r.1.2.1.2.2.2),(.int .i64 r.1.2.2.1),(.int .i64 r.1.2.2.2.1),(ow 3 r.1.2.2.2.2.1.length),(ow 4 r.1.2.2.2.2.2.length)]]),(ob 1 r.1.1.1),(ob 2 r.1.1.2.1),(ob 2 r.1.2.2.2.2.1),(ob 2 r.1.2.2.2.2.2)])
def g37_E (a:K1):List TV:=[(.agg [(.vs (rows a.1.1)),(.vs (rows a.1.2.1)),(.int .i64 a.1.2.2.1),(.bool a.1.2.2.2),(.int .i64 a.2.1.1),(.int .i64 a.2.1.2.1),(.int .i64 a.2.1.2.2.1),(.int .i64 a.2.1.2.2.2),(.int .i64 a.2.2.1),(.int .i64 a.2.2.2.1),(.vs (rows a.2.2.2.2.1)),(.vs (rows a.2.2.2.2.2))])]
theorem g37_run (a_p:K1) :callFn (X g37_S) g37_tf (g37_E a_p) [] = (spec_FormatGroups a_p).map g37_O:=by
  rw [callFn_eq]
  simp (maxSteps:=2000000) (maxDischargeDepth:=8) -implicitDefEqProofs [g37_tf,spec_FormatGroups,g37_E] <;> (try simp only [map_to_bind,g37_O])
def g37_r:Rule:=RlO g37_E (fun a=>spec_FormatGroups a) g37_O
theorem g37_ok:RuleOk Tryz.prog 8 g37_r:=ok_rlo (S:=g37_S) (tf:=g37_tf) (SysOk.on ⟨g138_ok,g122_ok,trivial⟩ ⟨g31_ok,trivial⟩) (trE_ok (ks:=[]) Tryz.func8 (by kernel_rfl)) fun a=>g37_run a
@[simp] theorem g37_app (y0 y1 y2 y3 y4 y5 y6 y7 y8 y9 y10 y11):g37_r [(.agg [(.vs (rows y0)),(.vs (rows y1)),(.int .i64 y2),(.bool y3),(.int .i64 y4),(.int .i64 y5),(.int .i64 y6),(.int .i64 y7),(.int .i64 y8),(.int .i64 y9),(.vs (rows y10)),(.vs (rows y11))])] = (spec_FormatGroups (((y0,y1,y2,y3),(y4,y5,y6,y7),y8,y9,y10,y11))).map g37_O :=
  RlO_app (enc:=g37_E) (by intro a b h; simp [g37_E,Prod.ext_iff] at h ⊢; simp [h]) (((y0,y1,y2,y3),(y4,y5,y6,y7),y8,y9,y10,y11))
/-! impl.within -/
def g128_tf:TFn:=⟨(.seq (.ops [oo 6 (.mv (kb false))]) (.trim [0,1,2] (.seq (.after (.ops [mo 7 0,mo 8 1,bn 9 .geq (.t 7) (.t 8),mo 10 9,⟨(some 11),(some (10,true)),(.mv (.t 0))⟩,⟨(some 12),(some (10,true)),(.mv (.t 2))⟩,⟨(some 13),(some (10,true)),(.bin .num .leq (.t 11) (.t 12))⟩,pk 14 (.t 10) (.t 13) (kb false),mo 6 14]) ⟨[(6,0)],[],0⟩) (.keep ⟨[(6,0)],[],0⟩ .ret)))),[.t 6]⟩
abbrev g128_S:=Sys.on [] []
def impl_within (a_n:Int) (a_low:Int) (a_high:Int):Option (Bool):=if a_n ≥ a_low then some ((decide (a_n ≤ a_high))) else some false
@[simp] def g128_O:Bool → TV × List Blk:=fun r=>((.bool r),[])
def g128_E (a:Int × Int × Int):List TV:=[(.int .i64 a.1),(.int .i64 a.2.1),(.int .i64 a.2.2)]
theorem g128_run (a_n:Int) (a_low:Int) (a_high:Int) :callFn (X g128_S) g128_tf (g128_E (a_n,a_low,a_high)) [] = (impl_within a_n a_low a_high).map g128_O:=by
  rw [callFn_eq]
  simp (maxSteps:=2000000) (maxDischargeDepth:=8) -implicitDefEqProofs [g128_tf,impl_within,g128_E] <;> (try simp only [map_to_bind,g128_O])
def g128_r:Rule:=RlO g128_E (fun a=>impl_within a.1 a.2.1 a.2.2) g128_O
theorem g128_ok:RuleOk Tryz.prog 55 g128_r:=ok_rlo (S:=g128_S) (tf:=g128_tf) (SysOk.on trivial trivial) (trE_ok (ks:=[]) Tryz.func55 (by kernel_rfl)) fun a=>g128_run a.1 a.2.1 a.2.2
@[simp] theorem g128_app (y0 y1 y2):g128_r [(.int .i64 y0),(.int .i64 y1),(.int .i64 y2)] = (impl_within y0 y1 y2).map g128_O :=
  RlO_app (enc:=g128_E) (by intro a b h; simp [g128_E,Prod.ext_iff] at h ⊢; simp [h]) (y0,y1,y2)
/-! impl.isBlock -/
def g108_tf:TFn:=⟨(.seq (.ops [oo 2 (.mv (kb false))]) (.trim [0] (.seq (.ops [mo 3 0,oo 4 (.len true (.t 3)),bn 5 .eql (.t 4) (ki 64),mo 2 5]) (.keep ⟨[(2,0)],[],0⟩ .ret)))),[.t 2]⟩
abbrev g108_S:=Sys.on [] []
def impl_isBlock (a_s:Str):Option (Bool):=some ((decide ((a_s.length:Int) = 64)))
@[simp] def g108_O:Bool → TV × List Blk:=fun r=>((.bool r),[])
def g108_E (a:Str):List TV:=[(.str a)]
theorem g108_run (a_s:Str) :callFn (X g108_S) g108_tf (g108_E a_s) [] = (impl_isBlock a_s).map g108_O:=by
  rw [callFn_eq]
  simp (maxSteps:=2000000) (maxDischargeDepth:=8) -implicitDefEqProofs [g108_tf,impl_isBlock,g108_E] <;> (try simp only [map_to_bind,g108_O])
def g108_r:Rule:=RlO g108_E (fun a=>impl_isBlock a) g108_O
theorem g108_ok:RuleOk Tryz.prog 132 g108_r:=ok_rlo (S:=g108_S) (tf:=g108_tf) (SysOk.on trivial trivial) (trE_ok (ks:=[]) Tryz.func132 (by kernel_rfl)) fun a=>g108_run a
@[simp] theorem g108_app (y0):g108_r [(.str y0)] = (impl_isBlock y0).map g108_O :=
  RlO_app (enc:=g108_E) (by intro a b h; simp [g108_E,Prod.ext_iff] at h ⊢; simp [h]) y0
/-! impl.ValidDisk.1 -/
def g38_tf:TFn:=⟨(.seq (.ops [oo 2 (.mv (kb false))]) (.trim [0] (.seq (.ops [mo 3 0,ca 4 132 [.t 3],nt 5 4,mo 2 5]) (.keep ⟨[(2,0)],[],0⟩ .ret)))),[.t 2]⟩
abbrev g38_S:=Sys.on [(132,g108_r)] []
def impl_ValidDisk_c1 (a_b:Str):Option (Bool):=(impl_isBlock a_b).bind fun r1=>some ((!r1))
@[simp] def g38_O:Bool → TV × List Blk:=fun r=>((.bool r),[])
def g38_E (a:Str):List TV:=[(.str a)]
theorem g38_run (a_b:Str) :callFn (X g38_S) g38_tf (g38_E a_b) [] = (impl_ValidDisk_c1 a_b).map g38_O:=by
  rw [callFn_eq]
  simp (maxSteps:=2000000) (maxDischargeDepth:=8) -implicitDefEqProofs [g38_tf,impl_ValidDisk_c1,g38_E] <;> (try simp only [map_to_bind,g38_O])
def g38_r:Rule:=RlO g38_E (fun a=>impl_ValidDisk_c1 a) g38_O
theorem g38_ok:RuleOk Tryz.prog 168 g38_r:=ok_rlo (S:=g38_S) (tf:=g38_tf) (SysOk.on ⟨g108_ok,trivial⟩ trivial) (trE_ok (ks:=[]) Tryz.func168 (by kernel_rfl)) fun a=>g38_run a
@[simp] theorem g38_app (y0):g38_r [(.str y0)] = (impl_ValidDisk_c1 y0).map g38_O :=
  RlO_app (enc:=g38_E) (by intro a b h; simp [g38_E,Prod.ext_iff] at h ⊢; simp [h]) y0
/-! slices.IndexFunc[[]string,string] -/
def g6l1_cb:TC:=(.seq (.ops [bn 9 .lss (.t 8) (.t 7)]) (.trim [0,1,7,8,9] (.seq (.cond (.t 9) .skip (.keep ⟨[],[],0⟩ (.exit 0))) (.trim [0,1,7,8] (.seq (.block 1 (.seq (.ops [mo 10 8,mo 5 10]) (.trim [0,1,5,7,8] (.seq (.ops [mo 11 1,mo 12 0,mo 13 5,ia 14 1 12 13,ld 15 14,oo 16 (.callv (.t 11) [.t 15])]) (.trim [0,1,5,7,8,16] (.cond (.t 16) (.seq (.ops [mo 17 5,mo 4 17]) (.keep ⟨[(4,0)],[],0⟩ .ret)) .skip)))))) (.trim [0,1,7,8] (.after (.ops [bn 18 .add (.t 8) (ki 1),mo 8 18]) ⟨[(0,0),(1,0),(7,0),(8,0)],[],0⟩)))))))
def g6l1_c:TC:=.loop [0,1,7,8] g6l1_cb
def g6_tf:TFn:=⟨(.seq (.ops [oo 4 (.mv (ki 0))]) (.trim [0,1] (.seq (.seq (.ops [mo 6 0,le 7 6,oo 8 (.mv (ki 0))]) (.trim [0,1,7,8] (.block 0 (.keep ⟨[(0,0),(1,0),(7,0),(8,0)],[],0⟩ g6l1_c)))) (.trim [] (.seq (.ops [oo 4 (.mv (ki (-1)))]) (.keep ⟨[(4,0)],[],0⟩ .ret)))))),[.t 4]⟩
abbrev g6_S:=Sys.on [(168,g38_r)] []
@[reducible,simp] def g6l1_F:((Unit) ⊕ (Int)) → Out:=(Sum.elim (fun t=>(.ext 0,[],[])) (fun t=>(.ret,[(4,(.int .i64 t))],[])))
def slices_IndexFunc_string_string__ValidDisk_c1_l1_b (v1:List Str) (v2:Int) (v3:Int):Option ((Int) ⊕ ((Unit) ⊕ (Int))):=if v3 < v2 then if 0 ≤ v3 then (v1[(v3).toNat]?).bind fun x4=>(impl_ValidDisk_c1 x4).bind fun r5=>if r5 = true then some (.inr (.inr v3)) else some (.inl ((IntKind.i64.wrap (v3 + 1)))) else none else some (.inr (.inl ()))
theorem g6l1_b_eq  (v1:List Str) (v2:Int) (v3:Int):X g6_S g6l1_cb (keepEnv [0,1,7,8] [(0,(.vs (rows v1))),(1,(.fn 168 [] [])),(7,(.int .i64 v2)),(8,(.int .i64 v3))]) [] = (slices_IndexFunc_string_string__ValidDisk_c1_l1_b v1 v2 v3).map (Sum.elim (fun s=>(TX.nrm,[(0,(.vs (rows v1))),(1,(.fn 168 [] [])),(7,(.int .i64 v2)),(8,(.int .i64 s))],[])) g6l1_F):=by
  simp (maxSteps:=2000000) (maxDischargeDepth:=8) -implicitDefEqProofs [g6l1_cb,slices_IndexFunc_string_string__ValidDisk_c1_l1_b] <;> (try simp only [map_to_bind,g6l1_F])
def slices_IndexFunc_string_string__ValidDisk_c1_l1 (v1:List Str) (v2:Int) (s:Int):Option ((Unit) ⊕ (Int)):=loopO (fun s=>slices_IndexFunc_string_string__ValidDisk_c1_l1_b v1 v2 s) s
@[simp] theorem g6l1_eq (y0 y1 y2):X g6_S g6l1_c [(0,(.vs (rows y0))),(1,(.fn 168 [] [])),(7,(.int .i64 y1)),(8,(.int .i64 y2))] [] = (slices_IndexFunc_string_string__ValidDisk_c1_l1 y0 y1 y2).map g6l1_F:=by
  exact loop_X _ _ _ _ (by intro r; first | (simp; done) | (rcases r with r | r <;> simp; done) | (rcases r with r | r | r <;> simp; done) | (rcases r with r | r | r | r <;> simp)) (fun s=>g6l1_b_eq  y0 y1 s) y2
def slices_IndexFunc_string_string__ValidDisk_c1 (a_s:List Str):Option (Int):=(slices_IndexFunc_string_string__ValidDisk_c1_l1 a_s ((a_s.length:Int)) 0).bind fun r6=>Sum.elim (fun u7=>some ((-1))) (fun u8=>some u8) r6
@[simp] def g6_O:Int → TV × List Blk:=fun r=>((.int .i64 r),[])
def g6_E (a:List Str):List TV:=[(.vs (rows a)),(.fn 168 [] [])]
theorem g6_run (a_s:List Str) :callFn (X g6_S) g6_tf (g6_E a_s) [] = (slices_IndexFunc_string_string__ValidDisk_c1 a_s).map g6_O:=by
  rw [callFn_eq]
  simp (maxSteps:=2000000) (maxDischargeDepth:=8) -implicitDefEqProofs [g6_tf,slices_IndexFunc_string_string__ValidDisk_c1,g6_E] <;> (try simp only [map_to_bind,g6_O])
def g6_r:Rule:=RlO g6_E (fun a=>slices_IndexFunc_string_string__ValidDisk_c1 a) g6_O
theorem g6_ok:RuleOk Tryz.prog 198 g6_r:=ok_rlo (S:=g6_S) (tf:=g6_tf) (SysOk.on ⟨g38_ok,trivial⟩ trivial) (trE_ok (ks:=[[0,1,7,8]]) Tryz.func198 (by kernel_rfl)) fun a=>g6_run a
@[simp] theorem g6_app (y0):g6_r [(.vs (rows y0)),(.fn 168 [] [])] = (slices_IndexFunc_string_string__ValidDisk_c1 y0).map g6_O :=
  RlO_app (enc:=g6_E) (by intro a b h; simp [g6_E,Prod.ext_iff] at h ⊢; simp [h]) y0
/-! slices.ContainsFunc[[]string,string] -/
def g5_tf:TFn:=⟨(.seq (.ops [oo 4 (.mv (kb false))]) (.trim [0,1] (.seq (.ops [mo 5 0,mo 6 1,ca 7 198 [.t 5,.t 6],bn 8 .geq (.t 7) (ki 0),mo 4 8]) (.keep ⟨[(4,0)],[],0⟩ .ret)))),[.t 4]⟩
abbrev g5_S:=Sys.on [(198,g6_r)] []
def slices_ContainsFunc_string_string__ValidDisk_c1 (a_s:List Str):Option (Bool):=(slices_IndexFunc_string_string__ValidDisk_c1 a_s).bind fun r1=>some ((decide (r1 ≥ 0)))
@[simp] def g5_O:Bool → TV × List Blk:=fun r=>((.bool r),[])
def g5_E (a:List Str):List TV:=[(.vs (rows a)),(.fn 168 [] [])]
theorem g5_run (a_s:List Str) :callFn (X g5_S) g5_tf (g5_E a_s) [] = (slices_ContainsFunc_string_string__ValidDisk_c1 a_s).map g5_O:=by
  rw [callFn_eq]
  simp (maxSteps:=2000000) (maxDischargeDepth:=8) -implicitDefEqProofs [g5_tf,slices_ContainsFunc_string_string__ValidDisk_c1,g5_E] <;> (try simp only [map_to_bind,g5_O])
def g5_r:Rule:=RlO g5_E (fun a=>slices_ContainsFunc_string_string__ValidDisk_c1 a) g5_O
theorem g5_ok:RuleOk Tryz.prog 167 g5_r:=ok_rlo (S:=g5_S) (tf:=g5_tf) (SysOk.on ⟨g6_ok,trivial⟩ trivial) (trE_ok (ks:=[]) Tryz.func167 (by kernel_rfl)) fun a=>g5_run a
@[simp] theorem g5_app (y0):g5_r [(.vs (rows y0)),(.fn 168 [] [])] = (slices_ContainsFunc_string_string__ValidDisk_c1 y0).map g5_O :=
  RlO_app (enc:=g5_E) (by intro a b h; simp [g5_E,Prod.ext_iff] at h ⊢; simp [h]) y0
/-! impl.isIndex -/
def g109_tf:TFn:=⟨(.seq (.ops [oo 4 (.mv (kb false))]) (.trim [0,1] (.seq (.ops [mo 5 0,mo 6 1,bn 7 .sub (.t 6) (ki 1),ca 8 55 [.t 5,ki 0,.t 7],mo 4 8]) (.keep ⟨[(4,0)],[],0⟩ .ret)))),[.t 4]⟩
abbrev g109_S:=Sys.on [(55,g128_r)] []
def impl_isIndex (a_i:Int) (a_many:Int):Option (Bool):=(impl_within a_i 0 ((IntKind.i64.wrap (a_many - 1)))).bind fun r1=>some r1
@[simp] def g109_O:Bool → TV × List Blk:=fun r=>((.bool r),[])
def g109_E (a:Int × Int):List TV:=[(.int .i64 a.1),(.int .i64 a.2)]
theorem g109_run (a_i:Int) (a_many:Int) :callFn (X g109_S) g109_tf (g109_E (a_i,a_many)) [] = (impl_isIndex a_i a_many).map g109_O:=by
  rw [callFn_eq]
  simp (maxSteps:=2000000) (maxDischargeDepth:=8) -implicitDefEqProofs [g109_tf,impl_isIndex,g109_E] <;> (try simp only [map_to_bind,g109_O])
def g109_r:Rule:=RlO g109_E (fun a=>impl_isIndex a.1 a.2) g109_O
theorem g109_ok:RuleOk Tryz.prog 171 g109_r:=ok_rlo (S:=g109_S) (tf:=g109_tf) (SysOk.on ⟨g128_ok,trivial⟩ trivial) (trE_ok (ks:=[]) Tryz.func171 (by kernel_rfl)) fun a=>g109_run a.1 a.2
@[simp] theorem g109_app (y0 y1):g109_r [(.int .i64 y0),(.int .i64 y1)] = (impl_isIndex y0 y1).map g109_O :=
  RlO_app (enc:=g109_E) (by intro a b h; simp [g109_E,Prod.ext_iff] at h ⊢; simp [h]) (y0,y1)
/-! impl.ValidDisk.2 -/
def g39_tf:TFn:=⟨(.seq (.ops [bx 2 0,oo 3 (.mv (kb false))]) (.trim [1,2] (.seq (.after (.ops [fa 4 0 2,ld 5 4,fa 6 0 1,ld 7 6,le 8 7,ca 9 171 [.t 5,.t 8],nt 10 9,mo 11 10,⟨(some 12),(some (11,false)),(.faddr 1 (.t 2))⟩,⟨(some 13),(some (11,false)),(.load none (.t 12))⟩,⟨(some 14),(some (11,false)),(.call 132 [.t 13])⟩,⟨(some 15),(some (11,false)),(.un .not (.t 14))⟩,pk 16 (.t 11) (kb true) (.t 15),mo 3 16]) ⟨[(3,0)],[],0⟩) (.keep ⟨[(3,0)],[],0⟩ .ret)))),[.t 3]⟩
abbrev g39_S:=Sys.on [(171,g109_r),(132,g108_r)] []
def impl_ValidDisk_c2 (a_p:Int × Str) (a_p':List Str) (a_p'':List (Int × Str)) (a_p''':Int) (a_p'''':Bool):Option (Bool):=(impl_isIndex a_p.1 ((a_p'.length:Int))).bind fun r1=>if ¬(r1 = true) then some true else (impl_isBlock a_p.2).bind fun r2=>some ((!r2))
@[simp] def g39_O:Bool → TV × List Blk:=fun r=>((.bool r),[])
def g39_E (a:(Int × Str) × List Str × (List (Int × Str)) × Int × Bool):List TV:=[(.agg [(.int .i64 a.1.1),(.str a.1.2)]),(.vp [(.vs (rows a.2.1)),(.vs (rows a.2.2.1)),(.int .i64 a.2.2.2.1),(.bool a.2.2.2.2)])]
theorem g39_run (a_p:Int × Str) (a_p':List Str) (a_p'':List (Int × Str)) (a_p''':Int) (a_p'''':Bool) :callFn (X g39_S) g39_tf (g39_E (a_p,a_p',a_p'',a_p''',a_p'''')) [] = (impl_ValidDisk_c2 a_p a_p' a_p'' a_p''' a_p'''').map g39_O:=by
  rw [callFn_eq]
  simp (maxSteps:=2000000) (maxDischargeDepth:=8) -implicitDefEqProofs [g39_tf,impl_ValidDisk_c2,g39_E] <;> (try simp only [map_to_bind,g39_O])
def g39_r:Rule:=RlO g39_E (fun a=>impl_ValidDisk_c2 a.1 a.2.1 a.2.2.1 a.2.2.2.1 a.2.2.2.2) g39_O
theorem g39_ok:RuleOk Tryz.prog 170 g39_r:=ok_rlo (S:=g39_S) (tf:=g39_tf) (SysOk.on ⟨g109_ok,g108_ok,trivial⟩ trivial) (trE_ok (ks:=[]) Tryz.func170 (by kernel_rfl)) fun a=>g39_run a.1 a.2.1 a.2.2.1 a.2.2.2.1 a.2.2.2.2
@[simp] theorem g39_app (y0 y1 y2 y3 y4 y5):g39_r [(.agg [(.int .i64 y0),(.str y1)]),(.vp [(.vs (rows y2)),(.vs (rows y3)),(.int .i64 y4),(.bool y5)])] = (impl_ValidDisk_c2 ((y0,y1)) y2 y3 y4 y5).map g39_O :=
  RlO_app (enc:=g39_E) (by intro a b h; simp [g39_E,Prod.ext_iff] at h ⊢; simp [h]) ((y0,y1),y2,y3,y4,y5)
/-! slices.IndexFunc[[]impl.Put,impl.Put] -/
def g4l1_cb:TC:=(.seq (.ops [bn 9 .lss (.t 8) (.t 7)]) (.trim [0,1,7,8,9] (.seq (.cond (.t 9) .skip (.keep ⟨[],[],0⟩ (.exit 0))) (.trim [0,1,7,8] (.seq (.block 1 (.seq (.ops [mo 10 8,mo 5 10]) (.trim [0,1,5,7,8] (.seq (.ops [mo 11 1,mo 12 0,mo 13 5,ia 14 2 12 13,ln 15 2 14,oo 16 (.callv (.t 11) [.t 15])]) (.trim [0,1,5,7,8,16] (.cond (.t 16) (.seq (.ops [mo 17 5,mo 4 17]) (.keep ⟨[(4,0)],[],0⟩ .ret)) .skip)))))) (.trim [0,1,7,8] (.after (.ops [bn 18 .add (.t 8) (ki 1),mo 8 18]) ⟨[(0,0),(1,0),(7,0),(8,0)],[],0⟩)))))))
def g4l1_c:TC:=.loop [0,1,7,8] g4l1_cb
def g4_tf:TFn:=⟨(.seq (.ops [oo 4 (.mv (ki 0))]) (.trim [0,1] (.seq (.seq (.ops [mo 6 0,le 7 6,oo 8 (.mv (ki 0))]) (.trim [0,1,7,8] (.block 0 (.keep ⟨[(0,0),(1,0),(7,0),(8,0)],[],0⟩ g4l1_c)))) (.trim [] (.seq (.ops [oo 4 (.mv (ki (-1)))]) (.keep ⟨[(4,0)],[],0⟩ .ret)))))),[.t 4]⟩
abbrev g4_S:=Sys.on [(170,g39_r)] []
@[reducible,simp] def g4l1_F:((Unit) ⊕ (Int)) → Out:=(Sum.elim (fun t=>(.ext 0,[],[])) (fun t=>(.ret,[(4,(.int .i64 t))],[])))
def slices_IndexFunc_impl_Put_impl_Put__ValidDisk_c2_l1_b (v1:List (Int × Str)) (v2:List Str) (v3:List (Int × Str)) (v4:Int) (v5:Bool) (v6:Int) (v7:Int):Option ((Int) ⊕ ((Unit) ⊕ (Int))):=if v7 < v6 then if 0 ≤ v7 then (v1[(v7).toNat]?).bind fun x8=>(impl_ValidDisk_c2 x8 v2 v3 v4 v5).bind fun r9=>if r9 = true then some (.inr (.inr v7)) else some (.inl ((IntKind.i64.wrap (v7 + 1)))) else none else some (.inr (.inl ()))
theorem g4l1_b_eq  (v1:List (Int × Str)) (v2:List Str) (v3:List (Int × Str)) (v4:Int) (v5:Bool) (v6:Int) (v7:Int):X g4_S g4l1_cb (keepEnv [0,1,7,8] [(0,(.vs (rows v1))),(1,(.fn 170 [] [(.vp [(.vs (rows v2)),(.vs (rows v3)),(.int .i64 v4),(.bool v5)])])),(7,(.int .i64 v6)),(8,(.int .i64 v7))]) [] = (slices_IndexFunc_impl_Put_impl_Put__ValidDisk_c2_l1_b v1 v2 v3 v4 v5 v6 v7).map (Sum.elim (fun s=>(TX.nrm,[(0,(.vs (rows v1))),(1,(.fn 170 [] [(.vp [(.vs (rows v2)),(.vs (rows v3)),(.int .i64 v4),(.bool v5)])])),(7,(.int .i64 v6)),(8,(.int .i64 s))],[])) g4l1_F):=by
  simp (maxSteps:=2000000) (maxDischargeDepth:=8) -implicitDefEqProofs [g4l1_cb,slices_IndexFunc_impl_Put_impl_Put__ValidDisk_c2_l1_b] <;> (try simp only [map_to_bind,g4l1_F])
def slices_IndexFunc_impl_Put_impl_Put__ValidDisk_c2_l1 (v1:List (Int × Str)) (v2:List Str) (v3:List (Int × Str)) (v4:Int) (v5:Bool) (v6:Int) (s:Int):Option ((Unit) ⊕ (Int)):=loopO (fun s=>slices_IndexFunc_impl_Put_impl_Put__ValidDisk_c2_l1_b v1 v2 v3 v4 v5 v6 s) s
@[simp] theorem g4l1_eq (y0 y1 y2 y3 y4 y5 y6):X g4_S g4l1_c [(0,(.vs (rows y0))),(1,(.fn 170 [] [(.vp [(.vs (rows y1)),(.vs (rows y2)),(.int .i64 y3),(.bool y4)])])),(7,(.int .i64 y5)),(8,(.int .i64 y6))] [] = (slices_IndexFunc_impl_Put_impl_Put__ValidDisk_c2_l1 y0 y1 y2 y3 y4 y5 y6).map g4l1_F:=by
  exact loop_X _ _ _ _ (by intro r; first | (simp; done) | (rcases r with r | r <;> simp; done) | (rcases r with r | r | r <;> simp; done) | (rcases r with r | r | r | r <;> simp)) (fun s=>g4l1_b_eq  y0 y1 y2 y3 y4 y5 s) y6
def slices_IndexFunc_impl_Put_impl_Put__ValidDisk_c2 (a_s:List (Int × Str)) (a_f:List Str) (a_f':List (Int × Str)) (a_f'':Int) (a_f''':Bool):Option (Int):=(slices_IndexFunc_impl_Put_impl_Put__ValidDisk_c2_l1 a_s a_f a_f' a_f'' a_f''' ((a_s.length:Int)) 0).bind fun r10=>Sum.elim (fun u11=>some ((-1))) (fun u12=>some u12) r10
@[simp] def g4_O:Int → TV × List Blk:=fun r=>((.int .i64 r),[])
def g4_E (a:(List (Int × Str)) × List Str × (List (Int × Str)) × Int × Bool):List TV:=[(.vs (rows a.1)),(.fn 170 [] [(.vp [(.vs (rows a.2.1)),(.vs (rows a.2.2.1)),(.int .i64 a.2.2.2.1),(.bool a.2.2.2.2)])])]
theorem g4_run (a_s:List (Int × Str)) (a_f:List Str) (a_f':List (Int × Str)) (a_f'':Int) (a_f''':Bool) :callFn (X g4_S) g4_tf (g4_E (a_s,a_f,a_f',a_f'',a_f''')) [] = (slices_IndexFunc_impl_Put_impl_Put__ValidDisk_c2 a_s a_f a_f' a_f'' a_f''').map g4_O:=by
  rw [callFn_eq]
  simp (maxSteps:=2000000) (maxDischargeDepth:=8) -implicitDefEqProofs [g4_tf,slices_IndexFunc_impl_Put_impl_Put__ValidDisk_c2,g4_E] <;> (try simp only [map_to_bind,g4_O])
def g4_r:Rule:=RlO g4_E (fun a=>slices_IndexFunc_impl_Put_impl_Put__ValidDisk_c2 a.1 a.2.1 a.2.2.1 a.2.2.2.1 a.2.2.2.2) g4_O
theorem g4_ok:RuleOk Tryz.prog 199 g4_r:=ok_rlo (S:=g4_S) (tf:=g4_tf) (SysOk.on ⟨g39_ok,trivial⟩ trivial) (trE_ok (ks:=[[0,1,7,8]]) Tryz.func199 (by kernel_rfl)) fun a=>g4_run a.1 a.2.1 a.2.2.1 a.2.2.2.1 a.2.2.2.2
@[simp] theorem g4_app (y0 y1 y2 y3 y4):g4_r [(.vs (rows y0)),(.fn 170 [] [(.vp [(.vs (rows y1)),(.vs (rows y2)),(.int .i64 y3),(.bool y4)])])] = (slices_IndexFunc_impl_Put_impl_Put__ValidDisk_c2 y0 y1 y2 y3 y4).map g4_O :=
  RlO_app (enc:=g4_E) (by intro a b h; simp [g4_E,Prod.ext_iff] at h ⊢; simp [h]) (y0,y1,y2,y3,y4)
/-! slices.ContainsFunc[[]impl.Put,impl.Put] -/
def g3_tf:TFn:=⟨(.seq (.ops [oo 4 (.mv (kb false))]) (.trim [0,1] (.seq (.ops [mo 5 0,mo 6 1,ca 7 199 [.t 5,.t 6],bn 8 .geq (.t 7) (ki 0),mo 4 8]) (.keep ⟨[(4,0)],[],0⟩ .ret)))),[.t 4]⟩
abbrev g3_S:=Sys.on [(199,g4_r)] []
def slices_ContainsFunc_impl_Put_impl_Put__ValidDisk_c2 (a_s:List (Int × Str)) (a_f:List Str) (a_f':List (Int × Str)) (a_f'':Int) (a_f''':Bool):Option (Bool):=(slices_IndexFunc_impl_Put_impl_Put__ValidDisk_c2 a_s a_f a_f' a_f'' a_f''').bind fun r1=>some ((decide (r1 ≥ 0)))
@[simp] def g3_O:Bool → TV × List Blk:=fun r=>((.bool r),[])
def g3_E (a:(List (Int × Str)) × List Str × (List (Int × Str)) × Int × Bool):List TV:=[(.vs (rows a.1)),(.fn 170 [] [(.vp [(.vs (rows a.2.1)),(.vs (rows a.2.2.1)),(.int .i64 a.2.2.2.1),(.bool a.2.2.2.2)])])]
theorem g3_run (a_s:List (Int × Str)) (a_f:List Str) (a_f':List (Int × Str)) (a_f'':Int) (a_f''':Bool) :callFn (X g3_S) g3_tf (g3_E (a_s,a_f,a_f',a_f'',a_f''')) [] = (slices_ContainsFunc_impl_Put_impl_Put__ValidDisk_c2 a_s a_f a_f' a_f'' a_f''').map g3_O:=by
  rw [callFn_eq]
  simp (maxSteps:=2000000) (maxDischargeDepth:=8) -implicitDefEqProofs [g3_tf,slices_ContainsFunc_impl_Put_impl_Put__ValidDisk_c2,g3_E] <;> (try simp only [map_to_bind,g3_O])
def g3_r:Rule:=RlO g3_E (fun a=>slices_ContainsFunc_impl_Put_impl_Put__ValidDisk_c2 a.1 a.2.1 a.2.2.1 a.2.2.2.1 a.2.2.2.2) g3_O
theorem g3_ok:RuleOk Tryz.prog 169 g3_r:=ok_rlo (S:=g3_S) (tf:=g3_tf) (SysOk.on ⟨g4_ok,trivial⟩ trivial) (trE_ok (ks:=[]) Tryz.func169 (by kernel_rfl)) fun a=>g3_run a.1 a.2.1 a.2.2.1 a.2.2.2.1 a.2.2.2.2
@[simp] theorem g3_app (y0 y1 y2 y3 y4):g3_r [(.vs (rows y0)),(.fn 170 [] [(.vp [(.vs (rows y1)),(.vs (rows y2)),(.int .i64 y3),(.bool y4)])])] = (slices_ContainsFunc_impl_Put_impl_Put__ValidDisk_c2 y0 y1 y2 y3 y4).map g3_O :=
  RlO_app (enc:=g3_E) (by intro a b h; simp [g3_E,Prod.ext_iff] at h ⊢; simp [h]) (y0,y1,y2,y3,y4)
/-! impl.ValidDisk -/
def g70_tf:TFn:=⟨(.seq (.ops [bx 1 0,oo 2 (.mv (kb false))]) (.trim [1] (.seq (.seq (.ops [fa 3 0 1,ld 4 3,le 5 4,ca 6 55 [.t 5,ki 16,ki 256],nt 7 6,mo 8 7,⟨(some 9),(some (8,false)),(.faddr 1 (.t 1))⟩,⟨(some 10),(some (8,false)),(.load none (.t 9))⟩,⟨(some 11),(some (8,false)),(.len false (.t 10))⟩,⟨(some 12),(some (8,false)),(.bin .num .gtr (.t 11) (ki 600))⟩,pk 13 (.t 8) (kb true) (.t 12),mo 14 13,⟨(some 15),(some (14,false)),(.faddr 2 (.t 1))⟩,⟨(some 16),(some (14,false)),(.load none (.t 15))⟩,⟨(some 17),(some (14,false)),(.call 55 [.t 16,(ki (-1)),ki 100000])⟩,⟨(some 18),(some (14,false)),(.un .not (.t 17))⟩,pk 19 (.t 14) (kb true) (.t 18)]) (.trim [1,19] (.cond (.t 19) (.seq (.ops [oo 2 (.mv (kb false))]) (.keep ⟨[(2,0)],[],0⟩ .ret)) .skip))) (.trim [1] (.seq (.seq (.ops [fa 20 0 1,ld 21 20,oo 22 (.call 167 [.t 21,(.c (.fn 168 [] []))])]) (.trim [1,22] (.cond (.t 22) (.seq (.ops [oo 2 (.mv (kb false))]) (.keep ⟨[(2,0)],[],0⟩ .ret)) .skip))) (.trim [1] (.seq (.ops [fa 23 1 1,ld 24 23,oo 25 (.mkfn 170 [] [.t 1]),ca 26 169 [.t 24,.t 25],nt 27 26,mo 2 27]) (.keep ⟨[(2,0)],[],0⟩ .ret)))))))),[.t 2]⟩
abbrev g70_S:=Sys.on [(55,g128_r),(167,g5_r),(169,g3_r)] []
def impl_ValidDisk (a_d:K0):Option (Bool):=(impl_within ((a_d.1.length:Int)) 16 256).bind fun r1=>if ¬(r1 = true) then some false else if (a_d.2.1.length:Int) > 600 then some false else (impl_within a_d.2.2.1 ((-1)) 100000).bind fun r2=>if ¬(r2 = true) then some false else (slices_ContainsFunc_string_string__ValidDisk_c1 a_d.1).bind fun r3=>if r3 = true then some false else (slices_ContainsFunc_impl_Put_impl_Put__ValidDisk_c2 a_d.2.1 a_d.1 a_d.2.1 a_d.2.2.1 a_d.2.2.2).bind fun r4=>some ((!r4))
@[simp] def g70_O:Bool → TV × List Blk:=fun r=>((.bool r),[])
def g70_E (a:K0):List TV:=[(.agg [(.vs (rows a.1)),(.vs (rows a.2.1)),(.int .i64 a.2.2.1),(.bool a.2.2.2)])]
theorem g70_run (a_d:K0) :callFn (X g70_S) g70_tf (g70_E a_d) [] = (impl_ValidDisk a_d).map g70_O:=by
  rw [callFn_eq]
  simp (maxSteps:=2000000) (maxDischargeDepth:=8) -implicitDefEqProofs [g70_tf,impl_ValidDisk,g70_E] <;> (try simp only [map_to_bind,g70_O])
def g70_r:Rule:=RlO g70_E (fun a=>impl_ValidDisk a) g70_O
theorem g70_ok:RuleOk Tryz.prog 130 g70_r:=ok_rlo (S:=g70_S) (tf:=g70_tf) (SysOk.on ⟨g128_ok,g5_ok,g3_ok,trivial⟩ trivial) (trE_ok (ks:=[]) Tryz.func130 (by kernel_rfl)) fun a=>g70_run a
@[simp] theorem g70_app (y0 y1 y2 y3):g70_r [(.agg [(.vs (rows y0)),(.vs (rows y1)),(.int .i64 y2),(.bool y3)])] = (impl_ValidDisk ((y0,y1,y2,y3))).map g70_O :=
  RlO_app (enc:=g70_E) (by intro a b h; simp [g70_E,Prod.ext_iff] at h ⊢; simp [h]) ((y0,y1,y2,y3))
/-! impl.ValidSuper -/
def g55_tf:TFn:=⟨(.seq (.ops [bx 1 0,oo 2 (.mv (kb false))]) (.trim [1] (.seq (.after (.ops [fa 3 0 1,ld 4 3,ca 5 55 [.t 4,ki 16,ki 256],mo 6 5,⟨(some 7),(some (6,true)),(.faddr 1 (.t 1))⟩,⟨(some 8),(some (6,true)),(.load none (.t 7))⟩,⟨(some 9),(some (6,true)),(.faddr 0 (.t 1))⟩,⟨(some 10),(some (6,true)),(.load none (.t 9))⟩,⟨(some 11),(some (6,true)),(.bin .num .sub (.t 10) (ki 4))⟩,⟨(some 12),(some (6,true)),(.mm false (ki 64) (.t 11))⟩,⟨(some 13),(some (6,true)),(.call 55 [.t 8,ki 8,.t 12])⟩,pk 14 (.t 6) (.t 13) (kb false),mo 15 14,⟨(some 16),(some (15,true)),(.faddr 2 (.t 1))⟩,⟨(some 17),(some (15,true)),(.load none (.t 16))⟩,⟨(some 18),(some (15,true)),(.call 55 [.t 17,ki 0,ki 1000000000000])⟩,pk 19 (.t 15) (.t 18) (kb false),mo 20 19,⟨(some 21),(some (20,true)),(.faddr 3 (.t 1))⟩,⟨(some 22),(some (20,true)),(.load none (.t 21))⟩,⟨(some 23),(some (20,true)),(.call 55 [.t 22,ki 0,ki 1000000000000])⟩,pk 24 (.t 20) (.t 23) (kb false),mo 2 24]) ⟨[(2,0)],[],0⟩) (.keep ⟨[(2,0)],[],0⟩ .ret)))),[.t 2]⟩
abbrev g55_S:=Sys.on [(55,g128_r)] []
def impl_ValidSuper (a_s:Int × Int × Int × Int):Option (Bool):=(impl_within a_s.1 16 256).bind fun r1=>if r1 = true then (impl_within a_s.2.1 8 ((min 64 ((IntKind.i64.wrap (a_s.1 - 4)))))).bind fun r2=>if r2 = true then (impl_within a_s.2.2.1 0 1000000000000).bind fun r3=>if r3 = true then (impl_within a_s.2.2.2 0 1000000000000).bind fun r4=>some r4 else some false else some false else some false
@[simp] def g55_O:Bool → TV × List Blk:=fun r=>((.bool r),[])
def g55_E (a:(Int × Int × Int × Int)):List TV:=[(.agg [(.int .i64 a.1),(.int .i64 a.2.1),(.int .i64 a.2.2.1),(.int .i64 a.2.2.2)])]
theorem g55_run (a_s:Int × Int × Int × Int) :callFn (X g55_S) g55_tf (g55_E a_s) [] = (impl_ValidSuper a_s).map g55_O:=by
  rw [callFn_eq]
  simp (maxSteps:=2000000) (maxDischargeDepth:=8) -implicitDefEqProofs [g55_tf,impl_ValidSuper,g55_E] <;> (try simp only [map_to_bind,g55_O])
def g55_r:Rule:=RlO g55_E (fun a=>impl_ValidSuper a) g55_O
theorem g55_ok:RuleOk Tryz.prog 131 g55_r:=ok_rlo (S:=g55_S) (tf:=g55_tf) (SysOk.on ⟨g128_ok,trivial⟩ trivial) (trE_ok (ks:=[]) Tryz.func131 (by kernel_rfl)) fun a=>g55_run a
@[simp] theorem g55_app (y0 y1 y2 y3):g55_r [(.agg [(.int .i64 y0),(.int .i64 y1),(.int .i64 y2),(.int .i64 y3)])] = (impl_ValidSuper ((y0,y1,y2,y3))).map g55_O :=
  RlO_app (enc:=g55_E) (by intro a b h; simp [g55_E,Prod.ext_iff] at h ⊢; simp [h]) ((y0,y1,y2,y3))
/-! impl.superFits -/
def g71_tf:TFn:=⟨(.seq (.ops [bx 2 0,bx 3 1,oo 4 (.mv (kb false))]) (.trim [2,3] (.seq (.after (.ops [ln 5 4 2,ca 6 130 [.t 5],mo 7 6,⟨(some 8),(some (7,true)),(.load (some 4) (.t 3))⟩,⟨(some 9),(some (7,true)),(.call 131 [.t 8])⟩,pk 10 (.t 7) (.t 9) (kb false),mo 11 10,⟨(some 12),(some (11,true)),(.faddr 0 (.t 3))⟩,⟨(some 13),(some (11,true)),(.load none (.t 12))⟩,⟨(some 14),(some (11,true)),(.faddr 0 (.t 2))⟩,⟨(some 15),(some (11,true)),(.load none (.t 14))⟩,⟨(some 16),(some (11,true)),(.len false (.t 15))⟩,⟨(some 17),(some (11,true)),(.bin .num .eql (.t 13) (.t 16))⟩,pk 18 (.t 11) (.t 17) (kb false),mo 4 18]) ⟨[(4,0)],[],0⟩) (.keep ⟨[(4,0)],[],0⟩ .ret)))),[.t 4]⟩
abbrev g71_S:=Sys.on [(130,g70_r),(131,g55_r)] []
def impl_superFits (a_d:K0) (a_s:Int × Int × Int × Int):Option (Bool):=(impl_ValidDisk a_d).bind fun r1=>if r1 = true then (impl_ValidSuper a_s).bind fun r2=>if r2 = true then some ((decide (a_s.1 = (a_d.1.length:Int)))) else some false else some false
@[simp] def g71_O:Bool → TV × List Blk:=fun r=>((.bool r),[])
def g71_E (a:K0 × (Int × Int × Int × Int)):List TV:=[(.agg [(.vs (rows a.1.1)),(.vs (rows a.1.2.1)),(.int .i64 a.1.2.2.1),(.bool a.1.2.2.2)]),(.agg [(.int .i64 a.2.1),(.int .i64 a.2.2.1),(.int .i64 a.2.2.2.1),(.int .i64 a.2.2.2.2)])]
theorem g71_run (a_d:K0) (a_s:Int × Int × Int × Int) :callFn (X g71_S) g71_tf (g71_E (a_d,a_s)) [] = (impl_superFits a_d a_s).map g71_O:=by
  rw [callFn_eq]
  simp (maxSteps:=2000000) (maxDischargeDepth:=8) -implicitDefEqProofs [g71_tf,impl_superFits,g71_E] <;> (try simp only [map_to_bind,g71_O])
def g71_r:Rule:=RlO g71_E (fun a=>impl_superFits a.1 a.2) g71_O
theorem g71_ok:RuleOk Tryz.prog 87 g71_r:=ok_rlo (S:=g71_S) (tf:=g71_tf) (SysOk.on ⟨g70_ok,g55_ok,trivial⟩ trivial) (trE_ok (ks:=[]) Tryz.func87 (by kernel_rfl)) fun a=>g71_run a.1 a.2
@[simp] theorem g71_app (y0 y1 y2 y3 y4 y5 y6 y7):g71_r [(.agg [(.vs (rows y0)),(.vs (rows y1)),(.int .i64 y2),(.bool y3)]),(.agg [(.int .i64 y4),(.int .i64 y5),(.int .i64 y6),(.int .i64 y7)])] = (impl_superFits ((y0,y1,y2,y3)) ((y4,y5,y6,y7))).map g71_O :=
  RlO_app (enc:=g71_E) (by intro a b h; simp [g71_E,Prod.ext_iff] at h ⊢; simp [h]) ((y0,y1,y2,y3),(y4,y5,y6,y7))
/-! impl.ValidPages -/
def g56l1_cb:TC:=(.seq (.ops [bn 8 .lss (.t 7) (.t 6)]) (.trim [0,5,6,7,8] (.seq (.cond (.t 8) .skip (.keep ⟨[(0,0)],[],0⟩ (.exit 0))) (.trim [0,5,6,7] (.seq (.block 1 (.seq (.ops [mo 9 7,ia 10 2 5 7,ln 11 2 10,oo 4 (.alloc [(.int .i64 0),(.str [])]),mo 3 9,⟨none,none,(.store 2 (.t 4) (.t 11))⟩]) (.trim [0,3,4,5,6,7] (.seq (.draw [([],fa 12 0 4),([0],ld 13 12),([0,1],ca 14 55 [.t 13,ki 0,ki 255]),([0,1,2],nt 15 14),([0,1,2,3],mo 16 15),([0,1,2,3,4],⟨(some 17),(some (16,false)),(.mv (.t 3))⟩),([0,1,2,3,4,5],⟨(some 18),(some (16,false)),(.bin .num .gtr (.t 17) (ki 0))⟩),([0,1,2,3,4,5,6],⟨(some 19),(some (16,false)),(.mv (.t 18))⟩),([0,1,2,3,4,5,6,7],⟨(some 20),(some (19,true)),(.faddr 0 (.t 4))⟩),([0,1,2,3,4,5,6,7,8],⟨(some 21),(some (19,true)),(.load none (.t 20))⟩),([0,1,2,3,4,5,6,7],⟨(some 22),(some (19,true)),(.mv (.t 0))⟩),([0,1,2,3,4,5,6,7],⟨(some 23),(some (19,true)),(.mv (.t 3))⟩),([0,1,2,3,4,5,6,7,11],⟨(some 24),(some (19,true)),(.bin .num .sub (.t 23) (ki 1))⟩),([0,1,2,3,4,5,6,7,10,11,12],⟨(some 25),(some (19,true)),(.iaddr 2 (.t 22) (.t 24))⟩),([0,1,2,3,4,5,6,7,10,11,12,13],⟨(some 26),(some (19,true)),(.faddr 0 (.t 25))⟩),([0,1,2,3,4,5,6,7,10,11,12,13,14],⟨(some 27),(some (19,true)),(.load none (.t 26))⟩)] [⟨(some 28),(some (19,true)),(.bin .num .leq (.t 21) (.t 27))⟩,⟨(some 29),(some (16,false)),(.pick (.t 19) (.t 28) (kb false))⟩,pk 30 (.t 16) (kb true) (.t 29),mo 31 30,⟨(some 32),(some (31,false)),(.faddr 1 (.t 4))⟩,⟨(some 33),(some (31,false)),(.load none (.t 32))⟩,⟨(some 34),(some (31,false)),(.call 132 [.t 33])⟩,⟨(some 35),(some (31,false)),(.un .not (.t 34))⟩,pk 36 (.t 31) (kb true) (.t 35)]) (.trim [0,5,6,7,36] (.cond (.t 36) (.seq (.ops [oo 2 (.mv (kb false))]) (.keep ⟨[(2,0)],[],0⟩ .ret)) (.keep ⟨[(0,0),(5,0),(6,0),(7,0)],[],0⟩ .skip))))))) (.trim [0,5,6,7] (.after (.ops [bn 37 .add (.t 7) (ki 1),mo 7 37]) ⟨[(0,0),(5,0),(6,0),(7,0)],[],0⟩)))))))
def g56l1_c:TC:=.loop [0,5,6,7] g56l1_cb
def g56_tf:TFn:=⟨(.seq (.ops [oo 2 (.mv (kb false))]) (.trim [0] (.seq (.seq (.ops [mo 5 0,le 6 5,oo 7 (.mv (ki 0))]) (.trim [0,5,6,7] (.block 0 (.keep ⟨[(0,0),(5,0),(6,0),(7,0)],[],0⟩ g56l1_c)))) (.trim [0] (.seq (.ops [mo 38 0,le 39 38,bn 40 .leq (.t 39) (ki 256),mo 2 40]) (.keep ⟨[(2,0)],[],0⟩ .ret)))))),[.t 2]⟩
abbrev g56_S:=Sys.on [(55,g128_r),(132,g108_r)] []
@[reducible,simp] def g56l1_F:(((List (Int × Str))) ⊕ (Bool)) → Out:=(Sum.elim (fun t=>(.ext 0,[(0,(.vs (rows t)))],[])) (fun t=>(.ret,[(2,(.bool t))],[])))
def impl_ValidPages_l1_b (v1:List (Int × Str)) (v2:List (Int × Str)) (v3:Int) (v4:Int):Option ((Int) ⊕ (((List (Int × Str))) ⊕ (Bool))):=if v4 < v3 then if 0 ≤ v4 then (v2[(v4).toNat]?).bind fun x5=>(impl_within x5.1 0 255).bind fun r6=>if ¬(r6 = true) then some (.inr (.inr false)) else if v4 > 0 then if 0 ≤ (IntKind.i64.wrap (v4 - 1)) then (v1[((IntKind.i64.wrap (v4 - 1))).toNat]?).bind fun x7=>if x5.1 ≤ x7.1 then some (.inr (.inr false)) else (impl_isBlock x5.2).bind fun r8=>if ¬(r8 = true) then some (.inr (.inr false)) else some (.inl ((IntKind.i64.wrap (v4 + 1)))) else none else (impl_isBlock x5.2).bind fun r9=>if ¬(r9 = true) then some (.inr (.inr false)) else some (.inl ((IntKind.i64.wrap (v4 + 1)))) else none else some (.inr (.inl v1))
theorem g56l1_b_eq  (v1:List (Int × Str)) (v2:List (Int × Str)) (v3:Int) (v4:Int):X g56_S g56l1_cb (keepEnv [0,5,6,7] [(0,(.vs (rows v1))),(5,(.vs (rows v2))),(6,(.int .i64 v3)),(7,(.int .i64 v4))]) [] = (impl_ValidPages_l1_b v1 v2 v3 v4).map (Sum.elim (fun s=>(TX.nrm,[(0,(.vs (rows v1))),(5,(.vs (rows v2))),(6,(.int .i64 v3)),(7,(.int .i64 s))],[])) g56l1_F):=by
  simp (maxSteps:=2000000) (maxDischargeDepth:=8) -implicitDefEqProofs [g56l1_cb,impl_ValidPages_l1_b] <;> (try simp only [map_to_bind,g56l1_F])
def impl_ValidPages_l1 (v1:List (Int × Str)) (v2:List (Int × Str)) (v3:Int) (s:Int):Option (((List (Int × Str))) ⊕ (Bool)):=loopO (fun s=>impl_ValidPages_l1_b v1 v2 v3 s) s
@[simp] theorem g56l1_eq (y0 y1 y2 y3):X g56_S g56l1_c [(0,(.vs (rows y0))),(5,(.vs (rows y1))),(6,(.int .i64 y2)),(7,(.int .i64 y3))] [] = (impl_ValidPages_l1 y0 y1 y2 y3).map g56l1_F:=by
  exact loop_X _ _ _ _ (by intro r; first | (simp; done) | (rcases r with r | r <;> simp; done) | (rcases r with r | r | r <;> simp; done) | (rcases r with r | r | r | r <;> simp)) (fun s=>g56l1_b_eq  y0 y1 y2 s) y3
def impl_ValidPages (a_list:List (Int × Str)):Option (Bool):=(impl_ValidPages_l1 a_list a_list ((a_list.length:Int)) 0).bind fun r10=>Sum.elim (fun u11=>some ((decide ((u11.length:Int) ≤ 256)))) (fun u12=>some u12) r10
@[simp] def g56_O:Bool → TV × List Blk:=fun r=>((.bool r),[])
def g56_E (a:(List (Int × Str))):List TV:=[(.vs (rows a))]
theorem g56_run (a_list:List (Int × Str)) :callFn (X g56_S) g56_tf (g56_E a_list) [] = (impl_ValidPages a_list).map g56_O:=by
  rw [callFn_eq]
  simp (maxSteps:=2000000) (maxDischargeDepth:=8) -implicitDefEqProofs [g56_tf,impl_ValidPages,g56_E] <;> (try simp only [map_to_bind,g56_O])
def g56_r:Rule:=RlO g56_E (fun a=>impl_ValidPages a) g56_O
theorem g56_ok:RuleOk Tryz.prog 88 g56_r:=ok_rlo (S:=g56_S) (tf:=g56_tf) (SysOk.on ⟨g128_ok,g108_ok,trivial⟩ trivial) (trE_ok (ks:=[[0,5,6,7],[16]]) Tryz.func88 (by kernel_rfl)) fun a=>g56_run a
@[simp] theorem g56_app (y0):g56_r [(.vs (rows y0))] = (impl_ValidPages y0).map g56_O :=
  RlO_app (enc:=g56_E) (by intro a b h; simp [g56_E,Prod.ext_iff] at h ⊢; simp [h]) y0
/-! impl.AreaBlock -/
def g72_tf:TFn:=⟨(.seq (.ops [bx 1 0,oo 2 (.mv (ki 0))]) (.trim [1] (.seq (.seq (.ops [ln 3 4 1,ca 4 131 [.t 3],nt 5 4]) (.trim [1,5] (.cond (.t 5) (.seq (.ops [oo 2 (.mv (ki 0))]) (.keep ⟨[(2,0)],[],0⟩ .ret)) .skip))) (.trim [1] (.seq (.ops [fa 6 1 1,ld 7 6,bn 8 .add (ki 2) (.t 7),mo 2 8]) (.keep ⟨[(2,0)],[],0⟩ .ret)))))),[.t 2]⟩
abbrev g72_S:=Sys.on [(131,g55_r)] []
def impl_AreaBlock (a_s:Int × Int × Int × Int):Option (Int):=(impl_ValidSuper a_s).bind fun r1=>if ¬(r1 = true) then some 0 else some ((IntKind.i64.wrap (2 + a_s.2.1)))
@[simp] def g72_O:Int → TV × List Blk:=fun r=>((.int .i64 r),[])
def g72_E (a:(Int × Int × Int × Int)):List TV:=[(.agg [(.int .i64 a.1),(.int .i64 a.2.1),(.int .i64 a.2.2.1),(.int .i64 a.2.2.2)])]
theorem g72_run (a_s:Int × Int × Int × Int) :callFn (X g72_S) g72_tf (g72_E a_s) [] = (impl_AreaBlock a_s).map g72_O:=by
  rw [callFn_eq]
  simp (maxSteps:=2000000) (maxDischargeDepth:=8) -implicitDefEqProofs [g72_tf,impl_AreaBlock,g72_E] <;> (try simp only [map_to_bind,g72_O])
def g72_r:Rule:=RlO g72_E (fun a=>impl_AreaBlock a) g72_O
theorem g72_ok:RuleOk Tryz.prog 135 g72_r:=ok_rlo (S:=g72_S) (tf:=g72_tf) (SysOk.on ⟨g55_ok,trivial⟩ trivial) (trE_ok (ks:=[]) Tryz.func135 (by kernel_rfl)) fun a=>g72_run a
@[simp] theorem g72_app (y0 y1 y2 y3):g72_r [(.agg [(.int .i64 y0),(.int .i64 y1),(.int .i64 y2),(.int .i64 y3)])] = (impl_AreaBlock ((y0,y1,y2,y3))).map g72_O :=
  RlO_app (enc:=g72_E) (by intro a b h; simp [g72_E,Prod.ext_iff] at h ⊢; simp [h]) ((y0,y1,y2,y3))
/-! (impl.Super).inArea.1 -/
def g22_tf:TFn:=⟨(.seq (.ops [bx 2 0,oo 3 (.mv (kb false))]) (.trim [1,2] (.seq (.draw [([],fa 4 0 2),([0],ld 5 4),([],ln 6 4 1),([2],ca 7 135 [.t 6]),([],fa 8 0 1),([4],ld 9 8),([4,5],bn 10 .sub (.t 9) (ki 1))] [ca 11 55 [.t 5,.t 7,.t 10],nt 12 11,mo 3 12]) (.keep ⟨[(3,0)],[],0⟩ .ret)))),[.t 3]⟩
abbrev g22_S:=Sys.on [(135,g72_r),(55,g128_r)] []
def impl_Super_inArea_c1 (a_p:Int × Str) (a_p':Int) (a_p'':Int) (a_p''':Int) (a_p'''':Int):Option (Bool):=(impl_AreaBlock ((a_p',a_p'',a_p''',a_p''''))).bind fun r1=>(impl_within a_p.1 r1 ((IntKind.i64.wrap (a_p' - 1)))).bind fun r2=>some ((!r2))
@[simp] def g22_O:Bool → TV × List Blk:=fun r=>((.bool r),[])
def g22_E (a:(Int × Str) × Int × Int × Int × Int):List TV:=[(.agg [(.int .i64 a.1.1),(.str a.1.2)]),(.vp [(.int .i64 a.2.1),(.int .i64 a.2.2.1),(.int .i64 a.2.2.2.1),(.int .i64 a.2.2.2.2)])]
theorem g22_run (a_p:Int × Str) (a_p':Int) (a_p'':Int) (a_p''':Int) (a_p'''':Int) :callFn (X g22_S) g22_tf (g22_E (a_p,a_p',a_p'',a_p''',a_p'''')) [] = (impl_Super_inArea_c1 a_p a_p' a_p'' a_p''' a_p'''').map g22_O:=by
  rw [callFn_eq]
  simp (maxSteps:=2000000) (maxDischargeDepth:=8) -implicitDefEqProofs [g22_tf,impl_Super_inArea_c1,g22_E] <;> (try simp only [map_to_bind,g22_O])
def g22_r:Rule:=RlO g22_E (fun a=>impl_Super_inArea_c1 a.1 a.2.1 a.2.2.1 a.2.2.2.1 a.2.2.2.2) g22_O
theorem g22_ok:RuleOk Tryz.prog 134 g22_r:=ok_rlo (S:=g22_S) (tf:=g22_tf) (SysOk.on ⟨g72_ok,g128_ok,trivial⟩ trivial) (trE_ok (ks:=[[7]]) Tryz.func134 (by kernel_rfl)) fun a=>g22_run a.1 a.2.1 a.2.2.1 a.2.2.2.1 a.2.2.2.2
@[simp] theorem g22_app (y0 y1 y2 y3 y4 y5):g22_r [(.agg [(.int .i64 y0),(.str y1)]),(.vp [(.int .i64 y2),(.int .i64 y3),(.int .i64 y4),(.int .i64 y5)])] = (impl_Super_inArea_c1 ((y0,y1)) y2 y3 y4 y5).map g22_O :=
  RlO_app (enc:=g22_E) (by intro a b h; simp [g22_E,Prod.ext_iff] at h ⊢; simp [h]) ((y0,y1),y2,y3,y4,y5)
/-! slices.IndexFunc[[]impl.Page,impl.Page] -/
def g2l1_cb:TC:=(.seq (.ops [bn 9 .lss (.t 8) (.t 7)]) (.trim [0,1,7,8,9] (.seq (.cond (.t 9) .skip (.keep ⟨[],[],0⟩ (.exit 0))) (.trim [0,1,7,8] (.seq (.block 1 (.seq (.ops [mo 10 8,mo 5 10]) (.trim [0,1,5,7,8] (.seq (.ops [mo 11 1,mo 12 0,mo 13 5,ia 14 2 12 13,ln 15 2 14,oo 16 (.callv (.t 11) [.t 15])]) (.trim [0,1,5,7,8,16] (.cond (.t 16) (.seq (.ops [mo 17 5,mo 4 17]) (.keep ⟨[(4,0)],[],0⟩ .ret)) .skip)))))) (.trim [0,1,7,8] (.after (.ops [bn 18 .add (.t 8) (ki 1),mo 8 18]) ⟨[(0,0),(1,0),(7,0),(8,0)],[],0⟩)))))))
def g2l1_c:TC:=.loop [0,1,7,8] g2l1_cb
def g2_tf:TFn:=⟨(.seq (.ops [oo 4 (.mv (ki 0))]) (.trim [0,1] (.seq (.seq (.ops [mo 6 0,le 7 6,oo 8 (.mv (ki 0))]) (.trim [0,1,7,8] (.block 0 (.keep ⟨[(0,0),(1,0),(7,0),(8,0)],[],0⟩ g2l1_c)))) (.trim [] (.seq (.ops [oo 4 (.mv (ki (-1)))]) (.keep ⟨[(4,0)],[],0⟩ .ret)))))),[.t 4]⟩
abbrev g2_S:=Sys.on [(134,g22_r)] []
@[reducible,simp] def g2l1_F:((Unit) ⊕ (Int)) → Out:=(Sum.elim (fun t=>(.ext 0,[],[])) (fun t=>(.ret,[(4,(.int .i64 t))],[])))
def slices_IndexFunc_impl_Page_impl_Page__Super_inArea_c1_l1_b (v1:List (Int × Str)) (v2:Int) (v3:Int) (v4:Int) (v5:Int) (v6:Int) (v7:Int):Option ((Int) ⊕ ((Unit) ⊕ (Int))):=if v7 < v6 then if 0 ≤ v7 then (v1[(v7).toNat]?).bind fun x8=>(impl_Super_inArea_c1 x8 v2 v3 v4 v5).bind fun r9=>if r9 = true then some (.inr (.inr v7)) else some (.inl ((IntKind.i64.wrap (v7 + 1)))) else none else some (.inr (.inl ()))
theorem g2l1_b_eq  (v1:List (Int × Str)) (v2:Int) (v3:Int) (v4:Int) (v5:Int) (v6:Int) (v7:Int):X g2_S g2l1_cb (keepEnv [0,1,7,8] [(0,(.vs (rows v1))),(1,(.fn 134 [] [(.vp [(.int .i64 v2),(.int .i64 v3),(.int .i64 v4),(.int .i64 v5)])])),(7,(.int .i64 v6)),(8,(.int .i64 v7))]) [] = (slices_IndexFunc_impl_Page_impl_Page__Super_inArea_c1_l1_b v1 v2 v3 v4 v5 v6 v7).map (Sum.elim (fun s=>(TX.nrm,[(0,(.vs (rows v1))),(1,(.fn 134 [] [(.vp [(.int .i64 v2),(.int .i64 v3),(.int .i64 v4),(.int .i64 v5)])])),(7,(.int .i64 v6)),(8,(.int .i64 s))],[])) g2l1_F):=by
  simp (maxSteps:=2000000) (maxDischargeDepth:=8) -implicitDefEqProofs [g2l1_cb,slices_IndexFunc_impl_Page_impl_Page__Super_inArea_c1_l1_b] <;> (try simp only [map_to_bind,g2l1_F])
def slices_IndexFunc_impl_Page_impl_Page__Super_inArea_c1_l1 (v1:List (Int × Str)) (v2:Int) (v3:Int) (v4:Int) (v5:Int) (v6:Int) (s:Int):Option ((Unit) ⊕ (Int)):=loopO (fun s=>slices_IndexFunc_impl_Page_impl_Page__Super_inArea_c1_l1_b v1 v2 v3 v4 v5 v6 s) s
@[simp] theorem g2l1_eq (y0 y1 y2 y3 y4 y5 y6):X g2_S g2l1_c [(0,(.vs (rows y0))),(1,(.fn 134 [] [(.vp [(.int .i64 y1),(.int .i64 y2),(.int .i64 y3),(.int .i64 y4)])])),(7,(.int .i64 y5)),(8,(.int .i64 y6))] [] = (slices_IndexFunc_impl_Page_impl_Page__Super_inArea_c1_l1 y0 y1 y2 y3 y4 y5 y6).map g2l1_F:=by
  exact loop_X _ _ _ _ (by intro r; first | (simp; done) | (rcases r with r | r <;> simp; done) | (rcases r with r | r | r <;> simp; done) | (rcases r with r | r | r | r <;> simp)) (fun s=>g2l1_b_eq  y0 y1 y2 y3 y4 y5 s) y6
def slices_IndexFunc_impl_Page_impl_Page__Super_inArea_c1 (a_s:List (Int × Str)) (a_f:Int) (a_f':Int) (a_f'':Int) (a_f''':Int):Option (Int):=(slices_IndexFunc_impl_Page_impl_Page__Super_inArea_c1_l1 a_s a_f a_f' a_f'' a_f''' ((a_s.length:Int)) 0).bind fun r10=>Sum.elim (fun u11=>some ((-1))) (fun u12=>some u12) r10
@[simp] def g2_O:Int → TV × List Blk:=fun r=>((.int .i64 r),[])
def g2_E (a:(List (Int × Str)) × Int × Int × Int × Int):List TV:=[(.vs (rows a.1)),(.fn 134 [] [(.vp [(.int .i64 a.2.1),(.int .i64 a.2.2.1),(.int .i64 a.2.2.2.1),(.int .i64 a.2.2.2.2)])])]
theorem g2_run (a_s:List (Int × Str)) (a_f:Int) (a_f':Int) (a_f'':Int) (a_f''':Int) :callFn (X g2_S) g2_tf (g2_E (a_s,a_f,a_f',a_f'',a_f''')) [] = (slices_IndexFunc_impl_Page_impl_Page__Super_inArea_c1 a_s a_f a_f' a_f'' a_f''').map g2_O:=by
  rw [callFn_eq]
  simp (maxSteps:=2000000) (maxDischargeDepth:=8) -implicitDefEqProofs [g2_tf,slices_IndexFunc_impl_Page_impl_Page__Super_inArea_c1,g2_E] <;> (try simp only [map_to_bind,g2_O])
def g2_r:Rule:=RlO g2_E (fun a=>slices_IndexFunc_impl_Page_impl_Page__Super_inArea_c1 a.1 a.2.1 a.2.2.1 a.2.2.2.1 a.2.2.2.2) g2_O
theorem g2_ok:RuleOk Tryz.prog 172 g2_r:=ok_rlo (S:=g2_S) (tf:=g2_tf) (SysOk.on ⟨g22_ok,trivial⟩ trivial) (trE_ok (ks:=[[0,1,7,8]]) Tryz.func172 (by kernel_rfl)) fun a=>g2_run a.1 a.2.1 a.2.2.1 a.2.2.2.1 a.2.2.2.2
@[simp] theorem g2_app (y0 y1 y2 y3 y4):g2_r [(.vs (rows y0)),(.fn 134 [] [(.vp [(.int .i64 y1),(.int .i64 y2),(.int .i64 y3),(.int .i64 y4)])])] = (slices_IndexFunc_impl_Page_impl_Page__Super_inArea_c1 y0 y1 y2 y3 y4).map g2_O :=
  RlO_app (enc:=g2_E) (by intro a b h; simp [g2_E,Prod.ext_iff] at h ⊢; simp [h]) (y0,y1,y2,y3,y4)
/-! slices.ContainsFunc[[]impl.Page,impl.Page] -/
def g1_tf:TFn:=⟨(.seq (.ops [oo 4 (.mv (kb false))]) (.trim [0,1] (.seq (.ops [mo 5 0,mo 6 1,ca 7 172 [.t 5,.t 6],bn 8 .geq (.t 7) (ki 0),mo 4 8]) (.keep ⟨[(4,0)],[],0⟩ .ret)))),[.t 4]⟩
abbrev g1_S:=Sys.on [(172,g2_r)] []
def slices_ContainsFunc_impl_Page_impl_Page__Super_inArea_c1 (a_s:List (Int × Str)) (a_f:Int) (a_f':Int) (a_f'':Int) (a_f''':Int):Option (Bool):=(slices_IndexFunc_impl_Page_impl_Page__Super_inArea_c1 a_s a_f a_f' a_f'' a_f''').bind fun r1=>some ((decide (r1 ≥ 0)))
@[simp] def g1_O:Bool → TV × List Blk:=fun r=>((.bool r),[])
def g1_E (a:(List (Int × Str)) × Int × Int × Int × Int):List TV:=[(.vs (rows a.1)),(.fn 134 [] [(.vp [(.int .i64 a.2.1),(.int .i64 a.2.2.1),(.int .i64 a.2.2.2.1),(.int .i64 a.2.2.2.2)])])]
theorem g1_run (a_s:List (Int × Str)) (a_f:Int) (a_f':Int) (a_f'':Int) (a_f''':Int) :callFn (X g1_S) g1_tf (g1_E (a_s,a_f,a_f',a_f'',a_f''')) [] = (slices_ContainsFunc_impl_Page_impl_Page__Super_inArea_c1 a_s a_f a_f' a_f'' a_f''').map g1_O:=by
  rw [callFn_eq]
  simp (maxSteps:=2000000) (maxDischargeDepth:=8) -implicitDefEqProofs [g1_tf,slices_ContainsFunc_impl_Page_impl_Page__Super_inArea_c1,g1_E] <;> (try simp only [map_to_bind,g1_O])
def g1_r:Rule:=RlO g1_E (fun a=>slices_ContainsFunc_impl_Page_impl_Page__Super_inArea_c1 a.1 a.2.1 a.2.2.1 a.2.2.2.1 a.2.2.2.2) g1_O
theorem g1_ok:RuleOk Tryz.prog 133 g1_r:=ok_rlo (S:=g1_S) (tf:=g1_tf) (SysOk.on ⟨g2_ok,trivial⟩ trivial) (trE_ok (ks:=[]) Tryz.func133 (by kernel_rfl)) fun a=>g1_run a.1 a.2.1 a.2.2.1 a.2.2.2.1 a.2.2.2.2
@[simp] theorem g1_app (y0 y1 y2 y3 y4):g1_r [(.vs (rows y0)),(.fn 134 [] [(.vp [(.int .i64 y1),(.int .i64 y2),(.int .i64 y3),(.int .i64 y4)])])] = (slices_ContainsFunc_impl_Page_impl_Page__Super_inArea_c1 y0 y1 y2 y3 y4).map g1_O :=
  RlO_app (enc:=g1_E) (by intro a b h; simp [g1_E,Prod.ext_iff] at h ⊢; simp [h]) (y0,y1,y2,y3,y4)
/-! (impl.Super).inArea -/
def g40_tf:TFn:=⟨(.seq (.ops [bx 2 0,oo 4 (.mv (kb false))]) (.trim [1,2] (.seq (.ops [mo 5 1,oo 6 (.mkfn 134 [] [.t 2]),ca 7 133 [.t 5,.t 6],nt 8 7,mo 4 8]) (.keep ⟨[(4,0)],[],0⟩ .ret)))),[.t 4]⟩
abbrev g40_S:=Sys.on [(133,g1_r)] []
def impl_Super_inArea (a_s:Int × Int × Int × Int) (a_list:List (Int × Str)):Option (Bool):=(slices_ContainsFunc_impl_Page_impl_Page__Super_inArea_c1 a_list a_s.1 a_s.2.1 a_s.2.2.1 a_s.2.2.2).bind fun r1=>some ((!r1))
@[simp] def g40_O:Bool → TV × List Blk:=fun r=>((.bool r),[])
def g40_E (a:(Int × Int × Int × Int) × (List (Int × Str))):List TV:=[(.agg [(.int .i64 a.1.1),(.int .i64 a.1.2.1),(.int .i64 a.1.2.2.1),(.int .i64 a.1.2.2.2)]),(.vs (rows a.2))]
theorem g40_run (a_s:Int × Int × Int × Int) (a_list:List (Int × Str)) :callFn (X g40_S) g40_tf (g40_E (a_s,a_list)) [] = (impl_Super_inArea a_s a_list).map g40_O:=by
  rw [callFn_eq]
  simp (maxSteps:=2000000) (maxDischargeDepth:=8) -implicitDefEqProofs [g40_tf,impl_Super_inArea,g40_E] <;> (try simp only [map_to_bind,g40_O])
def g40_r:Rule:=RlO g40_E (fun a=>impl_Super_inArea a.1 a.2) g40_O
theorem g40_ok:RuleOk Tryz.prog 89 g40_r:=ok_rlo (S:=g40_S) (tf:=g40_tf) (SysOk.on ⟨g1_ok,trivial⟩ trivial) (trE_ok (ks:=[]) Tryz.func89 (by kernel_rfl)) fun a=>g40_run a.1 a.2
@[simp] theorem g40_app (y0 y1 y2 y3 y4):g40_r [(.agg [(.int .i64 y0),(.int .i64 y1),(.int .i64 y2),(.int .i64 y3)]),(.vs (rows y4))] = (impl_Super_inArea ((y0,y1,y2,y3)) y4).map g40_O :=
  RlO_app (enc:=g40_E) (by intro a b h; simp [g40_E,Prod.ext_iff] at h ⊢; simp [h]) ((y0,y1,y2,y3),y4)
/-! impl.tableBlocks -/
def g48_tf:TFn:=⟨(.seq (.ops [oo 2 (.mv (ki 0))]) (.trim [0] (.seq (.ops [mo 3 0,bn 4 .mul (ki 2) (.t 3),bn 5 .add (.t 4) (ki 64),bn 6 .sub (.t 5) (ki 1),bn 7 .quo (.t 6) (ki 64),mo 2 7]) (.keep ⟨[(2,0)],[],0⟩ .ret)))),[.t 2]⟩
abbrev g48_S:=Sys.on [] []
def impl_tableBlocks (a_pages:Int):Option (Int):=some ((IntKind.i64.wrap (Int.tdiv ((IntKind.i64.wrap ((IntKind.i64.wrap ((IntKind.i64.wrap (2 * a_pages)) + 64)) - 1))) 64)))
@[simp] def g48_O:Int → TV × List Blk:=fun r=>((.int .i64 r),[])
def g48_E (a:Int):List TV:=[(.int .i64 a)]
theorem g48_run (a_pages:Int) :callFn (X g48_S) g48_tf (g48_E a_pages) [] = (impl_tableBlocks a_pages).map g48_O:=by
  rw [callFn_eq]
  simp (maxSteps:=2000000) (maxDischargeDepth:=8) -implicitDefEqProofs [g48_tf,impl_tableBlocks,g48_E] <;> (try simp only [map_to_bind,g48_O])
def g48_r:Rule:=RlO g48_E (fun a=>impl_tableBlocks a) g48_O
theorem g48_ok:RuleOk Tryz.prog 173 g48_r:=ok_rlo (S:=g48_S) (tf:=g48_tf) (SysOk.on trivial trivial) (trE_ok (ks:=[]) Tryz.func173 (by kernel_rfl)) fun a=>g48_run a
@[simp] theorem g48_app (y0):g48_r [(.int .i64 y0)] = (impl_tableBlocks y0).map g48_O :=
  RlO_app (enc:=g48_E) (by intro a b h; simp [g48_E,Prod.ext_iff] at h ⊢; simp [h]) y0
/-! impl.RecordBlocks -/
def g41_tf:TFn:=⟨(.seq (.ops [oo 2 (.mv (ki 0))]) (.trim [0] (.seq (.seq (.ops [mo 3 0,ca 4 55 [.t 3,ki 1,ki 60],nt 5 4]) (.trim [0,5] (.cond (.t 5) (.seq (.ops [oo 2 (.mv (ki 0))]) (.keep ⟨[(2,0)],[],0⟩ .ret)) .skip))) (.trim [0] (.seq (.ops [mo 6 0,ca 7 173 [.t 6],bn 8 .add (ki 1) (.t 7),mo 9 0,bn 10 .add (.t 8) (.t 9),mo 2 10]) (.keep ⟨[(2,0)],[],0⟩ .ret)))))),[.t 2]⟩
abbrev g41_S:=Sys.on [(55,g128_r),(173,g48_r)] []
def impl_RecordBlocks (a_pages:Int):Option (Int):=(impl_within a_pages 1 60).bind fun r1=>if ¬(r1 = true) then some 0 else (impl_tableBlocks a_pages).bind fun r2=>some ((IntKind.i64.wrap ((IntKind.i64.wrap (1 + r2)) + a_pages)))
@[simp] def g41_O:Int → TV × List Blk:=fun r=>((.int .i64 r),[])
def g41_E (a:Int):List TV:=[(.int .i64 a)]
theorem g41_run (a_pages:Int) :callFn (X g41_S) g41_tf (g41_E a_pages) [] = (impl_RecordBlocks a_pages).map g41_O:=by
  rw [callFn_eq]
  simp (maxSteps:=2000000) (maxDischargeDepth:=8) -implicitDefEqProofs [g41_tf,impl_RecordBlocks,g41_E] <;> (try simp only [map_to_bind,g41_O])
def g41_r:Rule:=RlO g41_E (fun a=>impl_RecordBlocks a) g41_O
theorem g41_ok:RuleOk Tryz.prog 136 g41_r:=ok_rlo (S:=g41_S) (tf:=g41_tf) (SysOk.on ⟨g128_ok,g48_ok,trivial⟩ trivial) (trE_ok (ks:=[]) Tryz.func136 (by kernel_rfl)) fun a=>g41_run a
@[simp] theorem g41_app (y0):g41_r [(.int .i64 y0)] = (impl_RecordBlocks y0).map g41_O :=
  RlO_app (enc:=g41_E) (by intro a b h; simp [g41_E,Prod.ext_iff] at h ⊢; simp [h]) y0
/-! (impl.Super).fits -/
def g57_tf:TFn:=⟨(.seq (.ops [bx 2 0,oo 4 (.mv (kb false))]) (.trim [1,2] (.seq (.after (.draw [([],mo 5 1),([0],bn 6 .leq (.t 5) (ki 60)),([0,1],mo 7 6),([0,1,2],⟨(some 8),(some (7,true)),(.mv (.t 1))⟩),([0,1,2,3],⟨(some 9),(some (7,true)),(.call 136 [.t 8])⟩),([0,1,2],⟨(some 10),(some (7,true)),(.faddr 1 (.t 2))⟩),([0,1,2,5],⟨(some 11),(some (7,true)),(.load none (.t 10))⟩)] [⟨(some 12),(some (7,true)),(.bin .num .leq (.t 9) (.t 11))⟩,pk 13 (.t 7) (.t 12) (kb false),mo 4 13]) ⟨[(4,0)],[],0⟩) (.keep ⟨[(4,0)],[],0⟩ .ret)))),[.t 4]⟩
abbrev g57_S:=Sys.on [(136,g41_r)] []
def impl_Super_fits (a_s:Int × Int × Int × Int) (a_pages:Int):Option (Bool):=if a_pages ≤ 60 then (impl_RecordBlocks a_pages).bind fun r1=>some ((decide (r1 ≤ a_s.2.1))) else some false
@[simp] def g57_O:Bool → TV × List Blk:=fun r=>((.bool r),[])
def g57_E (a:(Int × Int × Int × Int) × Int):List TV:=[(.agg [(.int .i64 a.1.1),(.int .i64 a.1.2.1),(.int .i64 a.1.2.2.1),(.int .i64 a.1.2.2.2)]),(.int .i64 a.2)]
theorem g57_run (a_s:Int × Int × Int × Int) (a_pages:Int) :callFn (X g57_S) g57_tf (g57_E (a_s,a_pages)) [] = (impl_Super_fits a_s a_pages).map g57_O:=by
  rw [callFn_eq]
  simp (maxSteps:=2000000) (maxDischargeDepth:=8) -implicitDefEqProofs [g57_tf,impl_Super_fits,g57_E] <;> (try simp only [map_to_bind,g57_O])
def g57_r:Rule:=RlO g57_E (fun a=>impl_Super_fits a.1 a.2) g57_O
theorem g57_ok:RuleOk Tryz.prog 90 g57_r:=ok_rlo (S:=g57_S) (tf:=g57_tf) (SysOk.on ⟨g41_ok,trivial⟩ trivial) (trE_ok (ks:=[[7]]) Tryz.func90 (by kernel_rfl)) fun a=>g57_run a.1 a.2
@[simp] theorem g57_app (y0 y1 y2 y3 y4):g57_r [(.agg [(.int .i64 y0),(.int .i64 y1),(.int .i64 y2),(.int .i64 y3)]),(.int .i64 y4)] = (impl_Super_fits ((y0,y1,y2,y3)) y4).map g57_O :=
  RlO_app (enc:=g57_E) (by intro a b h; simp [g57_E,Prod.ext_iff] at h ⊢; simp [h]) ((y0,y1,y2,y3),y4)
/-! impl.ValidPager -/
def g58p1_c:TC:=(.seq (.after (.ops [fa 40 10 1,ld 41 40,ca 42 88 [.t 41],mo 43 42,⟨(some 44),(some (43,true)),(.faddr 11 (.t 1))⟩,⟨(some 45),(some (43,true)),(.load none (.t 44))⟩,⟨(some 46),(some (43,true)),(.call 88 [.t 45])⟩,pk 47 (.t 43) (.t 46) (kb false),mo 48 47,⟨(some 49),(some (48,true)),(.faddr 4 (.t 1))⟩,⟨(some 50),(some (48,true)),(.load (some 4) (.t 49))⟩,⟨(some 51),(some (48,true)),(.faddr 10 (.t 1))⟩,⟨(some 52),(some (48,true)),(.load none (.t 51))⟩,⟨(some 53),(some (48,true)),(.call 89 [.t 50,.t 52])⟩,pk 54 (.t 48) (.t 53) (kb false),mo 55 54,⟨(some 56),(some (55,true)),(.faddr 4 (.t 1))⟩,⟨(some 57),(some (55,true)),(.load (some 4) (.t 56))⟩,⟨(some 58),(some (55,true)),(.faddr 11 (.t 1))⟩,⟨(some 59),(some (55,true)),(.load none (.t 58))⟩,⟨(some 60),(some (55,true)),(.call 89 [.t 57,.t 59])⟩,pk 61 (.t 55) (.t 60) (kb false),mo 62 61,⟨(some 63),(some (62,true)),(.faddr 4 (.t 1))⟩,⟨(some 64),(some (62,true)),(.load (some 4) (.t 63))⟩,⟨(some 65),(some (62,true)),(.faddr 11 (.t 1))⟩,⟨(some 66),(some (62,true)),(.load none (.t 65))⟩,⟨(some 67),(some (62,true)),(.len false (.t 66))⟩,⟨(some 68),(some (62,true)),(.call 90 [.t 64,.t 67])⟩,pk 69 (.t 62) (.t 68) (kb false),mo 2 69]) ⟨[(2,0)],[],0⟩) (.keep ⟨[(2,0)],[],0⟩ .ret))
def g58_tf:TFn:=⟨(.seq (.ops [bx 1 0,oo 2 (.mv (kb false))]) (.trim [1] (.seq (.seq (.ops [fa 3 0 1,ln 4 4 3,fa 5 4 1,ln 6 4 5,ca 7 87 [.t 4,.t 6],nt 8 7,mo 9 8,⟨(some 10),(some (9,false)),(.faddr 0 (.t 1))⟩,⟨(some 11),(some (9,false)),(.faddr 1 (.t 10))⟩,⟨(some 12),(some (9,false)),(.load none (.t 11))⟩,⟨(some 13),(some (9,false)),(.len false (.t 12))⟩,⟨(some 14),(some (9,false)),(.bin .num .gtr (.t 13) (ki 1))⟩,⟨(some 15),(some (9,false)),(.mv (.t 14))⟩,⟨(some 16),(some (15,true)),(.faddr 0 (.t 1))⟩,⟨(some 17),(some (15,true)),(.faddr 3 (.t 16))⟩,⟨(some 18),(some (15,true)),(.load none (.t 17))⟩,⟨(some 19),(some (15,true)),(.un .not (.t 18))⟩,⟨(some 20),(some (9,false)),(.pick (.t 15) (.t 19) (kb false))⟩,pk 21 (.t 9) (kb true) (.t 20),mo 22 21,⟨(some 23),(some (22,false)),(.faddr 8 (.t 1))⟩,⟨(some 24),(some (22,false)),(.load none (.t 23))⟩,⟨(some 25),(some (22,false)),(.faddr 4 (.t 1))⟩,⟨(some 26),(some (22,false)),(.faddr 2 (.t 25))⟩,⟨(some 27),(some (22,false)),(.load none (.t 26))⟩,⟨(some 28),(some (22,false)),(.call 55 [.t 24,.t 27,ki 1000000000000])⟩,⟨(some 29),(some (22,false)),(.un .not (.t 28))⟩,pk 30 (.t 22) (kb true) (.t 29),mo 31 30,⟨(some 32),(some (31,false)),(.faddr 9 (.t 1))⟩,⟨(some 33),(some (31,false)),(.load none (.t 32))⟩,⟨(some 34),(some (31,false)),(.faddr 4 (.t 1))⟩,⟨(some 35),(some (31,false)),(.faddr 1 (.t 34))⟩,⟨(some 36),(some (31,false)),(.load none (.t 35))⟩,⟨(some 37),(some (31,false)),(.call 55 [.t 33,ki 0,.t 36])⟩,⟨(some 38),(some (31,false)),(.un .not (.t 37))⟩,pk 39 (.t 31) (kb true) (.t 38)]) (.trim [1,39] (.cond (.t 39) (.seq (.ops [oo 2 (.mv (kb false))]) (.keep ⟨[(2,0)],[],0⟩ .ret)) (.keep ⟨[(1,0)],[(0,0)],0⟩ .skip)))) (.trim [1] g58p1_c)))),[.t 2]⟩
abbrev g58_S:=Sys.on [(87,g71_r),(55,g128_r),(88,g56_r),(89,g40_r),(90,g57_r)] []
@[reducible,simp] def g58p1_F:Bool → Out:=(fun t=>(.ret,[(2,(.bool t))],[]))
def impl_ValidPager_p1 (v6:K1):Option (Bool):=(impl_ValidPages v6.2.2.2.2.1).bind fun r7=>if r7 = true then (impl_ValidPages v6.2.2.2.2.2).bind fun r8=>if r8 = true then (impl_Super_inArea v6.2.1 v6.2.2.2.2.1).bind fun r9=>if r9 = true then (impl_Super_inArea v6.2.1 v6.2.2.2.2.2).bind fun r10=>if r10 = true then (impl_Super_fits v6.2.1 ((v6.2.2.2.2.2.length:Int))).bind fun r11=>some r11 else some false else some false else some false else some false
@[simp] theorem g58p1_eq (y0 y1 y2 y3 y4 y5 y6 y7 y8 y9 y10 y11):X g58_S g58p1_c [(1,(.ptr 0 0 0))] [(.live 12 [[(.vs (rows y0)),(.vs (rows y1)),(.int .i64 y2),(.bool y3),(.int .i64 y4),(.int .i64 y5),(.int .i64 y6),(.int .i64 y7),(.int .i64 y8),(.int .i64 y9),(.vs (rows y10)),(.vs (rows y11))]])] = (impl_ValidPager_p1 (((y0,y1,y2,y3),(y4,y5,y6,y7),y8,y9,y10,y11))).map g58p1_F:=by
  simp (maxSteps:=2000000) (maxDischargeDepth:=8) -implicitDefEqProofs [g58p1_c,impl_ValidPager_p1] <;> (try simp only [map_to_bind,g58p1_F])
def impl_ValidPager (a_p:K1):Option (Bool):=(impl_superFits a_p.1 a_p.2.1).bind fun r1=>if ¬(r1 = true) then some false else if (a_p.1.2.1.length:Int) > 1 then if ¬(a_p.1.2.2.2 = true) then some false else (impl_within a_p.2.2.1 a_p.2.1.2.2.1 1000000000000).bind fun r2=>if ¬(r2 = true) then some false else (impl_within a_p.2.2.2.1 0 a_p.2.1.2.1).bind fun r3=>if ¬(r3 = true) then some false else (impl_ValidPager_p1 a_p).bind fun r12=>some r12 else (impl_within a_p.2.2.1 a_p.2.1.2.2.1 1000000000000).bind fun r4=>if ¬(r4 = true) then some false else (impl_within a_p.2.2.2.1 0 a_p.2.1.2.1).bind fun r5=>if ¬(r5 = true) then some false else (impl_ValidPager_p1 a_p).bind fun r13=>some r13
@[simp] def g58_O:Bool → TV × List Blk:=fun r=>((.bool r),[])
def g58_E (a:K1):List TV:=[(.agg [(.vs (rows a.1.1)),(.vs (rows a.1.2.1)),(.int .i64 a.1.2.2.1),(.bool a.1.2.2.2),(.int .i64 a.2.1.1),(.int .i64 a.2.1.2.1),(.int .i64 a.2.1.2.2.1),(.int .i64 a.2.1.2.2.2),(.int .i64 a.2.2.1),(.int .i64 a.2.2.2.1),(.vs (rows a.2.2.2.2.1)),(.vs (rows a.2.2.2.2.2))])]
theorem g58_run (a_p:K1) :callFn (X g58_S) g58_tf (g58_E a_p) [] = (impl_ValidPager a_p).map g58_O:=by
  rw [callFn_eq]
  simp (maxSteps:=2000000) (maxDischargeDepth:=8) -implicitDefEqProofs [g58_tf,impl_ValidPager,g58_E] <;> (try simp only [map_to_bind,g58_O])
def g58_r:Rule:=RlO g58_E (fun a=>impl_ValidPager a) g58_O
theorem g58_ok:RuleOk Tryz.prog 37 g58_r:=ok_rlo (S:=g58_S) (tf:=g58_tf) (SysOk.on ⟨g71_ok,g128_ok,g56_ok,g40_ok,g57_ok,trivial⟩ trivial) (trE_ok (ks:=[]) Tryz.func37 (by kernel_rfl)) fun a=>g58_run a
@[simp] theorem g58_app (y0 y1 y2 y3 y4 y5 y6 y7 y8 y9 y10 y11):g58_r [(.agg [(.vs (rows y0)),(.vs (rows y1)),(.int .i64 y2),(.bool y3),(.int .i64 y4),(.int .i64 y5),(.int .i64 y6),(.int .i64 y7),(.int .i64 y8),(.int .i64 y9),(.vs (rows y10)),(.vs (rows y11))])] = (impl_ValidPager (((y0,y1,y2,y3),(y4,y5,y6,y7),y8,y9,y10,y11))).map g58_O :=
  RlO_app (enc:=g58_E) (by intro a b h; simp [g58_E,Prod.ext_iff] at h ⊢; simp [h]) (((y0,y1,y2,y3),(y4,y5,y6,y7),y8,y9,y10,y11))
/-! slices.Clone[[]string,string] -/
theorem g12_fn:FnOk Tryz.prog 174 (cloneTF 9 [(.str [])] 1 16):=trF_ok (ks:=[]) Tryz.func174 (by kernel_rfl)
noncomputable def slices_Clone_string_string_ (l:List (Str)):Option (List (Str)):=appL 16 [] l
noncomputable def g12_r:Rule:=RlO (fun (l:List (Str))=>[TV.vs (rows l)]) (fun l=>slices_Clone_string_string_ l) (fun r=>(ow 0 r.length,[ob 1 r]))
theorem g12_ok:RuleOk Tryz.prog 174 g12_r:=clone_ok rfl g12_fn
@[simp] theorem g12_app (y0):g12_r [TV.vs (rows y0)] = (slices_Clone_string_string_ y0).map (fun r=>(ow 0 r.length,[ob 1 r])):=RlO_app (enc:=fun (y0:List (Str))=>[TV.vs (rows y0)]) (g:=fun y0=>slices_Clone_string_string_ y0) (by intro a b h; simpa using h) y0
/-! slices.Clone[[]impl.Put,impl.Put] -/
theorem g10_fn:FnOk Tryz.prog 175 (cloneTF 156 [(.int .i64 0),(.str [])] 2 24):=trF_ok (ks:=[]) Tryz.func175 (by kernel_rfl)
noncomputable def slices_Clone_impl_Put_impl_Put_ (l:List (Int × Str)):Option (List (Int × Str)):=appL 24 [] l
noncomputable def g10_r:Rule:=RlO (fun (l:List (Int × Str))=>[TV.vs (rows l)]) (fun l=>slices_Clone_impl_Put_impl_Put_ l) (fun r=>(ow 0 r.length,[ob 2 r]))
theorem g10_ok:RuleOk Tryz.prog 175 g10_r:=clone_ok rfl g10_fn
@[simp] theorem g10_app (y0):g10_r [TV.vs (rows y0)] = (slices_Clone_impl_Put_impl_Put_ y0).map (fun r=>(ow 0 r.length,[ob 2 r])):=RlO_app (enc:=fun (y0:List (Int × Str))=>[TV.vs (rows y0)]) (g:=fun y0=>slices_Clone_impl_Put_impl_Put_ y0) (by intro a b h; simpa using h) y0
/-! (impl.Disk).clone -/
def g59_tf:TFn:=⟨(.seq (.ops [bx 1 0,oo 2 (.alloc [.nils,.nils,(.int .i64 0),(.bool false)])]) (.trim [1,2] (.seq (.draw [([],fa 3 0 1),([0],ld 4 3),([0,1],ca 5 174 [.t 4]),([],fa 6 1 1),([3],ld 7 6),([0,1,2,3,4],ca 8 175 [.t 7]),([],fa 9 2 1),([6],ld 10 9),([],fa 11 3 1),([8],ld 12 11)] [oo 13 (.build [.nils,.nils,(.int .i64 0),(.bool false)] [(0,1,(.t 5)),(1,1,(.t 8)),(2,1,(.t 10)),(3,1,(.t 12))]),⟨none,none,(.store 4 (.t 2) (.t 13))⟩]) (.keep ⟨[(2,0)],[(1,2),(2,1),(3,1)],0⟩ .ret)))),[.cell 2 (some 4)]⟩
abbrev g59_S:=Sys.on [(174,g12_r),(175,g10_r)] []
def impl_Disk_clone (a_d:K0):Option (K0):=(slices_Clone_string_string_ a_d.1).bind fun r1=>(slices_Clone_impl_Put_impl_Put_ a_d.2.1).bind fun r2=>some ((r1,r2,a_d.2.2.1,a_d.2.2.2))
@[simp] def g59_O:(K0) → TV × List Blk:=fun r=>((.agg [(ow 1 r.1.length),(ow 2 r.2.1.length),(.int .i64 r.2.2.1),(.bool r.2.2.2)]),[(.live 4 [[(ow 1 r.1.length),(ow 2 r.2.1.length),(.int .i64 r.2.2.1),(.bool r.2.2.2)]]),(ob 1 r.1),(ob 2 r.2.1)])
def g59_E (a:K0):List TV:=[(.agg [(.vs (rows a.1)),(.vs (rows a.2.1)),(.int .i64 a.2.2.1),(.bool a.2.2.2)])]
theorem g59_run (a_d:K0) :callFn (X g59_S) g59_tf (g59_E a_d) [] = (impl_Disk_clone a_d).map g59_O:=by
  rw [callFn_eq]
  simp (maxSteps:=2000000) (maxDischargeDepth:=8) -implicitDefEqProofs [g59_tf,impl_Disk_clone,g59_E] <;> (try simp only [map_to_bind,g59_O])
def g59_r:Rule:=RlO g59_E (fun a=>impl_Disk_clone a) g59_O
theorem g59_ok:RuleOk Tryz.prog 137 g59_r:=ok_rlo (S:=g59_S) (tf:=g59_tf) (SysOk.on ⟨g12_ok,g10_ok,trivial⟩ trivial) (trE_ok (ks:=[[10]]) Tryz.func137 (by kernel_rfl)) fun a=>g59_run a
@[simp] theorem g59_app (y0 y1 y2 y3):g59_r [(.agg [(.vs (rows y0)),(.vs (rows y1)),(.int .i64 y2),(.bool y3)])] = (impl_Disk_clone ((y0,y1,y2,y3))).map g59_O :=
  RlO_app (enc:=g59_E) (by intro a b h; simp [g59_E,Prod.ext_iff] at h ⊢; simp [h]) ((y0,y1,y2,y3))
/-! slices.Clone[[]impl.Page,impl.Page] -/
theorem g9_fn:FnOk Tryz.prog 138 (cloneTF 125 [(.int .i64 0),(.str [])] 2 24):=trF_ok (ks:=[]) Tryz.func138 (by kernel_rfl)
noncomputable def slices_Clone_impl_Page_impl_Page_ (l:List (Int × Str)):Option (List (Int × Str)):=appL 24 [] l
noncomputable def g9_r:Rule:=RlO (fun (l:List (Int × Str))=>[TV.vs (rows l)]) (fun l=>slices_Clone_impl_Page_impl_Page_ l) (fun r=>(ow 0 r.length,[ob 2 r]))
theorem g9_ok:RuleOk Tryz.prog 138 g9_r:=clone_ok rfl g9_fn
@[simp] theorem g9_app (y0):g9_r [TV.vs (rows y0)] = (slices_Clone_impl_Page_impl_Page_ y0).map (fun r=>(ow 0 r.length,[ob 2 r])):=RlO_app (enc:=fun (y0:List (Int × Str))=>[TV.vs (rows y0)]) (g:=fun y0=>slices_Clone_impl_Page_impl_Page_ y0) (by intro a b h; simpa using h) y0
/-! (impl.Pager).clone -/
def g49_tf:TFn:=⟨(.seq (.ops [bx 1 0,oo 2 (.alloc [.nils,.nils,(.int .i64 0),(.bool false),(.int .i64 0),(.int .i64 0),(.int .i64 0),(.int .i64 0),(.int .i64 0),(.int .i64 0),.nils,.nils])]) (.trim [1,2] (.seq (.ops [fa 3 0 1,ln 4 4 3,ca 5 137 [.t 4],fa 6 0 1,⟨none,none,(.store 4 (.t 6) (.t 5))⟩]) (.trim [1,2] (.seq (.ops [fa 7 10 1,ld 8 7,ca 9 138 [.t 8],fa 10 10 1,⟨none,none,(.store 1 (.t 10) (.t 9))⟩]) (.trim [1,2] (.seq (.ops [fa 11 11 1,ld 12 11,ca 13 138 [.t 12],fa 14 11 1,⟨none,none,(.store 1 (.t 14) (.t 13))⟩]) (.trim [1,2] (.seq (.ops [ln 15 12 1,⟨none,none,(.store 12 (.t 2) (.t 15))⟩]) (.keep ⟨[(2,0)],[(1,2),(3,1),(4,1),(5,1),(6,1)],0⟩ .ret)))))))))),[.cell 2 (some 12)]⟩
abbrev g49_S:=Sys.on [(137,g59_r),(138,g9_r)] []
def impl_Pager_clone (a_p:K1):Option (K1):=(impl_Disk_clone a_p.1).bind fun r1=>(slices_Clone_impl_Page_impl_Page_ a_p.2.2.2.2.1).bind fun r2=>(slices_Clone_impl_Page_impl_Page_ a_p.2.2.2.2.2).bind fun r3=>some ((r1,a_p.2.1,a_p.2.2.1,a_p.2.2.2.1,r2,r3))
@[simp] def g49_O:(K1) → TV × List Blk:=fun r=>((.agg [(ow 1 r.1.1.length),(ow 2 r.1.2.1.length),(.int .i64 r.1.2.2.1),(.bool r.1.2.2.2),(.int .i64 r.2.1.1),(.int .i64 r.2.1.2.1),(.int .i64 r.2.1.2.2.1),(.int .i64 r.2.1.2.2.2),(.int .i64 r.2.2.1),(.int .i64 r.2.2.2.1),(ow 3 r.2.2.2.2.1.length),(ow 4 r.2.2.2.2.2.length)]),[(.live 12 [[(ow 1 r.1.1.length),(ow 2 r.1.2.1.length),(.int .i64 r.1.2.2.1),(.bool r.1.2.2.2),(.int .i64 r.2.1.1),(.int .i64 r.2.1.2.1),(.int .i64 r.2.1.2.2.1),(.int .i64 r.2.1.2.2.2),(.int .i64 r.2.2.1),(.int .i64 r.2.2.2.1),(ow 3 r.2.2.2.2.1.length),(ow 4 r.2.2.2.2.2.length)]]),(ob 1 r.1.1),(ob 2 r.1.2.1),(ob 2 r.2.2.2.2.1),(ob 2 r.2.2.2.2.2)])
def g49_E (a:K1):List TV:=[(.agg [(.vs (rows a.1.1)),(.vs (rows a.1.2.1)),(.int .i64 a.1.2.2.1),(.bool a.1.2.2.2),(.int .i64 a.2.1.1),(.int .i64 a.2.1.2.1),(.int .i64 a.2.1.2.2.1),(.int .i64 a.2.1.2.2.2),(.int .i64 a.2.2.1),(.int .i64 a.2.2.2.1),(.vs (rows a.2.2.2.2.1)),(.vs (rows a.2.2.2.2.2))])]
theorem g49_run (a_p:K1) :callFn (X g49_S) g49_tf (g49_E a_p) [] = (impl_Pager_clone a_p).map g49_O:=by
  rw [callFn_eq]
  simp (maxSteps:=2000000) (maxDischargeDepth:=8) -implicitDefEqProofs [g49_tf,impl_Pager_clone,g49_E] <;> (try simp only [map_to_bind,g49_O])
def g49_r:Rule:=RlO g49_E (fun a=>impl_Pager_clone a) g49_O
theorem g49_ok:RuleOk Tryz.prog 91 g49_r:=ok_rlo (S:=g49_S) (tf:=g49_tf) (SysOk.on ⟨g59_ok,g9_ok,trivial⟩ trivial) (trE_ok (ks:=[]) Tryz.func91 (by kernel_rfl)) fun a=>g49_run a
@[simp] theorem g49_app (y0 y1 y2 y3 y4 y5 y6 y7 y8 y9 y10 y11):g49_r [(.agg [(.vs (rows y0)),(.vs (rows y1)),(.int .i64 y2),(.bool y3),(.int .i64 y4),(.int .i64 y5),(.int .i64 y6),(.int .i64 y7),(.int .i64 y8),(.int .i64 y9),(.vs (rows y10)),(.vs (rows y11))])] = (impl_Pager_clone (((y0,y1,y2,y3),(y4,y5,y6,y7),y8,y9,y10,y11))).map g49_O :=
  RlO_app (enc:=g49_E) (by intro a b h; simp [g49_E,Prod.ext_iff] at h ⊢; simp [h]) (((y0,y1,y2,y3),(y4,y5,y6,y7),y8,y9,y10,y11))
/-! (*impl.Pager).area -/
def g60_tf:TFn:=⟨(.seq (.ops [oo 2 (.mv (ki 0))]) (.trim [0] (.seq (.ops [mo 3 0,nk 4 3,fa 5 4 4,fa 6 1 5,ld 7 6,bn 8 .add (ki 2) (.t 7),mo 2 8]) (.keep ⟨[(2,0)],[],0⟩ .ret)))),[.t 2]⟩
abbrev g60_S:=Sys.on [] []
def impl_Pager_area (a_p:K1):Option (Int):=some ((IntKind.i64.wrap (2 + a_p.2.1.2.1)))
@[simp] def g60_O:Int → TV × List Blk:=fun r=>((.int .i64 r),[])
def g60_E (a:K1 × List TV):List TV:=[(.vp ((.vs (rows a.1.1.1))::(.vs (rows a.1.1.2.1))::(.int .i64 a.1.1.2.2.1)::(.bool a.1.1.2.2.2)::(.int .i64 a.1.2.1.1)::(.int .i64 a.1.2.1.2.1)::(.int .i64 a.1.2.1.2.2.1)::(.int .i64 a.1.2.1.2.2.2)::(.int .i64 a.1.2.2.1)::(.int .i64 a.1.2.2.2.1)::(.vs (rows a.1.2.2.2.2.1))::(.vs (rows a.1.2.2.2.2.2))::a.2))]
theorem g60_run (a_p:K1) (q0:List TV):callFn (X g60_S) g60_tf (g60_E (a_p,q0)) [] = (impl_Pager_area a_p).map g60_O:=by
  rw [callFn_eq]
  simp (maxSteps:=2000000) (maxDischargeDepth:=8) -implicitDefEqProofs [g60_tf,impl_Pager_area,g60_E] <;> (try simp only [map_to_bind,g60_O])
def g60_r:Rule:=RlO g60_E (fun a=>impl_Pager_area a.1) g60_O
theorem g60_ok:RuleOk Tryz.prog 121 g60_r:=ok_rlo (S:=g60_S) (tf:=g60_tf) (SysOk.on trivial trivial) (trE_ok (ks:=[]) Tryz.func121 (by kernel_rfl)) fun a=>g60_run a.1 a.2
@[simp] theorem g60_app (y0 y1 y2 y3 y4 y5 y6 y7 y8 y9 y10 y11)(q0:List TV):g60_r [(.vp ((.vs (rows y0))::(.vs (rows y1))::(.int .i64 y2)::(.bool y3)::(.int .i64 y4)::(.int .i64 y5)::(.int .i64 y6)::(.int .i64 y7)::(.int .i64 y8)::(.int .i64 y9)::(.vs (rows y10))::(.vs (rows y11))::q0))] = (impl_Pager_area (((y0,y1,y2,y3),(y4,y5,y6,y7),y8,y9,y10,y11))).map g60_O :=
  RlO_app (enc:=g60_E) (by intro a b h; simp [g60_E,Prod.ext_iff] at h ⊢; simp [h]) (((y0,y1,y2,y3),(y4,y5,y6,y7),y8,y9,y10,y11),q0)
/-! cmp.isNaN[int64] -/
def g61_tf:TFn:=⟨(.seq (.ops [oo 2 (.mv (kb false))]) (.trim [0] (.seq (.ops [mo 3 0,mo 4 0,bn 5 .neq (.t 3) (.t 4),mo 2 5]) (.keep ⟨[(2,0)],[],0⟩ .ret)))),[.t 2]⟩
abbrev g61_S:=Sys.on [] []
def cmp_isNaN_int64 (a_x:Int):Option (Bool):=some ((!decide (a_x = a_x)))
@[simp] def g61_O:Bool → TV × List Blk:=fun r=>((.bool r),[])
def g61_E (a:Int):List TV:=[(.int .i64 a)]
theorem g61_run (a_x:Int) :callFn (X g61_S) g61_tf (g61_E a_x) [] = (cmp_isNaN_int64 a_x).map g61_O:=by
  rw [callFn_eq]
  simp (maxSteps:=2000000) (maxDischargeDepth:=8) -implicitDefEqProofs [g61_tf,cmp_isNaN_int64,g61_E] <;> (try simp only [map_to_bind,g61_O])
def g61_r:Rule:=RlO g61_E (fun a=>cmp_isNaN_int64 a) g61_O
theorem g61_ok:RuleOk Tryz.prog 212 g61_r:=ok_rlo (S:=g61_S) (tf:=g61_tf) (SysOk.on trivial trivial) (trE_ok (ks:=[]) Tryz.func212 (by kernel_rfl)) fun a=>g61_run a
@[simp] theorem g61_app (y0):g61_r [(.int .i64 y0)] = (cmp_isNaN_int64 y0).map g61_O :=
  RlO_app (enc:=g61_E) (by intro a b h; simp [g61_E,Prod.ext_iff] at h ⊢; simp [h]) y0
/-! cmp.Compare[int64] -/
def g42_tf:TFn:=⟨(.seq (.ops [oo 4 (.mv (ki 0))]) (.trim [0,1] (.seq (.ops [mo 7 0,ca 8 212 [.t 7],mo 5 8]) (.trim [0,1,5] (.seq (.ops [mo 9 1,ca 10 212 [.t 9],mo 6 10]) (.trim [0,1,5,6] (.seq (.seq (.ops [mo 11 5]) (.trim [0,1,6,11] (.cond (.t 11) (.seq (.seq (.ops [mo 12 6]) (.trim [12] (.cond (.t 12) (.seq (.ops [oo 4 (.mv (ki 0))]) (.keep ⟨[(4,0)],[],0⟩ .ret)) .skip))) (.trim [] (.seq (.ops [oo 4 (.mv (ki (-1)))]) (.keep ⟨[(4,0)],[],0⟩ .ret)))) .skip))) (.trim [0,1,6] (.seq (.seq (.ops [mo 13 6]) (.trim [0,1,13] (.cond (.t 13) (.seq (.ops [oo 4 (.mv (ki 1))]) (.keep ⟨[(4,0)],[],0⟩ .ret)) .skip))) (.trim [0,1] (.seq (.seq (.ops [mo 14 0,mo 15 1,bn 16 .lss (.t 14) (.t 15)]) (.trim [0,1,16] (.cond (.t 16) (.seq (.ops [oo 4 (.mv (ki (-1)))]) (.keep ⟨[(4,0)],[],0⟩ .ret)) .skip))) (.trim [0,1] (.seq (.seq (.ops [mo 17 0,mo 18 1,bn 19 .gtr (.t 17) (.t 18)]) (.trim [19] (.cond (.t 19) (.seq (.ops [oo 4 (.mv (ki 1))]) (.keep ⟨[(4,0)],[],0⟩ .ret)) .skip))) (.trim [] (.seq (.ops [oo 4 (.mv (ki 0))]) (.keep ⟨[(4,0)],[],0⟩ .ret)))))))))))))))),[.t 4]⟩
abbrev g42_S:=Sys.on [(212,g61_r)] []
def cmp_Compare_int64 (a_x:Int) (a_y:Int):Option (Int):=(cmp_isNaN_int64 a_x).bind fun r1=>(cmp_isNaN_int64 a_y).bind fun r2=>if r1 = true then if r2 = true then some 0 else some ((-1)) else if r2 = true then some 1 else if a_x < a_y then some ((-1)) else if a_x > a_y then some 1 else some 0
@[simp] def g42_O:Int → TV × List Blk:=fun r=>((.int .i64 r),[])
def g42_E (a:Int × Int):List TV:=[(.int .i64 a.1),(.int .i64 a.2)]
theorem g42_run (a_x:Int) (a_y:Int) :callFn (X g42_S) g42_tf (g42_E (a_x,a_y)) [] = (cmp_Compare_int64 a_x a_y).map g42_O:=by
  rw [callFn_eq]
  simp (maxSteps:=2000000) (maxDischargeDepth:=8) -implicitDefEqProofs [g42_tf,cmp_Compare_int64,g42_E] <;> (try simp only [map_to_bind,g42_O])
def g42_r:Rule:=RlO g42_E (fun a=>cmp_Compare_int64 a.1 a.2) g42_O
theorem g42_ok:RuleOk Tryz.prog 188 g42_r:=ok_rlo (S:=g42_S) (tf:=g42_tf) (SysOk.on ⟨g61_ok,trivial⟩ trivial) (trE_ok (ks:=[]) Tryz.func188 (by kernel_rfl)) fun a=>g42_run a.1 a.2
@[simp] theorem g42_app (y0 y1):g42_r [(.int .i64 y0),(.int .i64 y1)] = (cmp_Compare_int64 y0 y1).map g42_O :=
  RlO_app (enc:=g42_E) (by intro a b h; simp [g42_E,Prod.ext_iff] at h ⊢; simp [h]) (y0,y1)
/-! impl.pageAt.1 -/
def g73_tf:TFn:=⟨(.seq (.ops [bx 2 0,oo 4 (.mv (ki 0))]) (.trim [1,2] (.seq (.ops [fa 5 0 2,ld 6 5,mo 7 1,ca 8 188 [.t 6,.t 7],mo 4 8]) (.keep ⟨[(4,0)],[],0⟩ .ret)))),[.t 4]⟩
abbrev g73_S:=Sys.on [(188,g42_r)] []
def impl_pageAt_c1 (a_p:Int × Str) (a_block:Int):Option (Int):=(cmp_Compare_int64 a_p.1 a_block).bind fun r1=>some r1
@[simp] def g73_O:Int → TV × List Blk:=fun r=>((.int .i64 r),[])
def g73_E (a:(Int × Str) × Int):List TV:=[(.agg [(.int .i64 a.1.1),(.str a.1.2)]),(.int .i64 a.2)]
theorem g73_run (a_p:Int × Str) (a_block:Int) :callFn (X g73_S) g73_tf (g73_E (a_p,a_block)) [] = (impl_pageAt_c1 a_p a_block).map g73_O:=by
  rw [callFn_eq]
  simp (maxSteps:=2000000) (maxDischargeDepth:=8) -implicitDefEqProofs [g73_tf,impl_pageAt_c1,g73_E] <;> (try simp only [map_to_bind,g73_O])
def g73_r:Rule:=RlO g73_E (fun a=>impl_pageAt_c1 a.1 a.2) g73_O
theorem g73_ok:RuleOk Tryz.prog 187 g73_r:=ok_rlo (S:=g73_S) (tf:=g73_tf) (SysOk.on ⟨g42_ok,trivial⟩ trivial) (trE_ok (ks:=[]) Tryz.func187 (by kernel_rfl)) fun a=>g73_run a.1 a.2
@[simp] theorem g73_app (y0 y1 y2):g73_r [(.agg [(.int .i64 y0),(.str y1)]),(.int .i64 y2)] = (impl_pageAt_c1 ((y0,y1)) y2).map g73_O :=
  RlO_app (enc:=g73_E) (by intro a b h; simp [g73_E,Prod.ext_iff] at h ⊢; simp [h]) ((y0,y1),y2)
/-! slices.BinarySearchFunc[[]impl.Page,impl.Page,int64] -/
def g0l1_cb:TC:=(.seq (.seq (.ops [mo 15 9,mo 16 10,bn 17 .lss (.t 15) (.t 16)]) (.trim [0,1,2,8,9,10,17] (.cond (.t 17) .skip (.keep ⟨[(0,0),(1,0),(2,0),(8,0),(9,0)],[],0⟩ (.exit 0))))) (.trim [0,1,2,8,9,10] (.block 1 (.seq (.ops [mo 18 9,mo 19 10,bn 20 .add (.t 18) (.t 19),oo 21 (.conv (.toInt .u64) (.t 20)),oo 22 (.bin .num .shr (.t 21) (.c (.int .u64 1))),oo 23 (.conv (.toInt .i64) (.t 22)),mo 11 23]) (.trim [0,1,2,8,9,10,11] (.seq (.ops [mo 24 2,mo 25 0,mo 26 11,ia 27 2 25 26,ln 28 2 27,mo 29 1,oo 30 (.callv (.t 24) [.t 28,.t 29]),bn 31 .lss (.t 30) (ki 0)]) (.trim [0,1,2,8,9,10,11,31] (.cond (.t 31) (.after (.ops [mo 32 11,bn 33 .add (.t 32) (ki 1),mo 9 33]) ⟨[(0,0),(1,0),(2,0),(8,0),(9,0),(10,0)],[],0⟩) (.after (.ops [mo 34 11,mo 10 34]) ⟨[(0,0),(1,0),(2,0),(8,0),(9,0),(10,0)],[],0⟩)))))))))
def g0l1_c:TC:=.loop [0,1,2,8,9,10] g0l1_cb
def g0_tf:TFn:=⟨(.seq (.ops [oo 6 (.mv (ki 0)),oo 7 (.mv (kb false))]) (.trim [0,1,2] (.seq (.ops [mo 12 0,le 13 12,mo 8 13]) (.trim [0,1,2,8] (.seq (.ops [mo 14 8,oo 9 (.mv (ki 0)),mo 10 14]) (.trim [0,1,2,8,9,10] (.seq (.block 0 (.keep ⟨[(0,0),(1,0),(2,0),(8,0),(9,0),(10,0)],[],0⟩ g0l1_c)) (.trim [0,1,2,8,9] (.seq (.after (.ops [mo 35 9,mo 36 9,mo 37 8,bn 38 .lss (.t 36) (.t 37),mo 39 38,⟨(some 40),(some (39,true)),(.mv (.t 2))⟩,⟨(some 41),(some (39,true)),(.mv (.t 0))⟩,⟨(some 42),(some (39,true)),(.mv (.t 9))⟩,⟨(some 43),(some (39,true)),(.iaddr 2 (.t 41) (.t 42))⟩,⟨(some 44),(some (39,true)),(.load (some 2) (.t 43))⟩,⟨(some 45),(some (39,true)),(.mv (.t 1))⟩,⟨(some 46),(some (39,true)),(.callv (.t 40) [.t 44,.t 45])⟩,⟨(some 47),(some (39,true)),(.bin .num .eql (.t 46) (ki 0))⟩,pk 48 (.t 39) (.t 47) (kb false),mo 6 35,mo 7 48]) ⟨[(6,0),(7,0)],[],0⟩) (.keep ⟨[(6,0),(7,0)],[],0⟩ .ret)))))))))),[.t 6,.t 7]⟩
abbrev g0_S:=Sys.on [(187,g73_r)] []
@[reducible,simp] def g0l1_F:((List (Int × Str)) × Int × Int × Int) → Out:=(fun t=>(.ext 0,[(0,(.vs (rows t.1))),(1,(.int .i64 t.2.1)),(2,(.fn 187 [] [])),(8,(.int .i64 t.2.2.1)),(9,(.int .i64 t.2.2.2))],[]))
def slices_BinarySearchFunc_impl_Page_impl_Page_int64__pageAt_c1_l1_b (v1:List (Int × Str)) (v2:Int) (v3:Int) (v4:Int) (v5:Int):Option ((Int × Int) ⊕ ((List (Int × Str)) × Int × Int × Int)):=if v4 < v5 then if 0 ≤ (IntKind.i64.wrap ((shrV .u64 ((IntKind.u64.wrap ((IntKind.i64.wrap (v4 + v5))))) 1))) then (v1[((IntKind.i64.wrap ((shrV .u64 ((IntKind.u64.wrap ((IntKind.i64.wrap (v4 + v5))))) 1)))).toNat]?).bind fun x6=>(impl_pageAt_c1 x6 v2).bind fun r7=>if r7 < 0 then some (.inl ((IntKind.i64.wrap ((IntKind.i64.wrap ((shrV .u64 ((IntKind.u64.wrap ((IntKind.i64.wrap (v4 + v5))))) 1))) + 1)),v5)) else some (.inl (v4,(IntKind.i64.wrap ((shrV .u64 ((IntKind.u64.wrap ((IntKind.i64.wrap (v4 + v5))))) 1))))) else none else some (.inr (v1,v2,v3,v4))
theorem g0l1_b_eq  (v1:List (Int × Str)) (v2:Int) (v3:Int) (v4:Int) (v5:Int):X g0_S g0l1_cb (keepEnv [0,1,2,8,9,10] [(0,(.vs (rows v1))),(1,(.int .i64 v2)),(2,(.fn 187 [] [])),(8,(.int .i64 v3)),(9,(.int .i64 v4)),(10,(.int .i64 v5))]) [] = (slices_BinarySearchFunc_impl_Page_impl_Page_int64__pageAt_c1_l1_b v1 v2 v3 v4 v5).map (Sum.elim (fun s=>(TX.nrm,[(0,(.vs (rows v1))),(1,(.int .i64 v2)),(2,(.fn 187 [] [])),(8,(.int .i64 v3)),(9,(.int .i64 s.1)),(10,(.int .i64 s.2))],[])) g0l1_F):=by
  simp (maxSteps:=2000000) (maxDischargeDepth:=8) -implicitDefEqProofs [g0l1_cb,slices_BinarySearchFunc_impl_Page_impl_Page_int64__pageAt_c1_l1_b] <;> (try simp only [map_to_bind,g0l1_F])
def slices_BinarySearchFunc_impl_Page_impl_Page_int64__pageAt_c1_l1 (v1:List (Int × Str)) (v2:Int) (v3:Int) (s:Int × Int):Option ((List (Int × Str)) × Int × Int × Int):=loopO (fun s=>slices_BinarySearchFunc_impl_Page_impl_Page_int64__pageAt_c1_l1_b v1 v2 v3 s.1 s.2) s
@[simp] theorem g0l1_eq (y0 y1 y2 y3 y4):X g0_S g0l1_c [(0,(.vs (rows y0))),(1,(.int .i64 y1)),(2,(.fn 187 [] [])),(8,(.int .i64 y2)),(9,(.int .i64 y3)),(10,(.int .i64 y4))] [] = (slices_BinarySearchFunc_impl_Page_impl_Page_int64__pageAt_c1_l1 y0 y1 y2 (y3,y4)).map g0l1_F:=by
  exact loop_X _ _ _ _ (by intro r; first | (simp; done) | (rcases r with r | r <;> simp; done) | (rcases r with r | r | r <;> simp; done) | (rcases r with r | r | r | r <;> simp)) (fun s=>g0l1_b_eq  y0 y1 y2 s.1 s.2) (y3,y4)
def slices_BinarySearchFunc_impl_Page_impl_Page_int64__pageAt_c1 (a_x:List (Int × Str)) (a_target:Int):Option (Int × Bool):=(slices_BinarySearchFunc_impl_Page_impl_Page_int64__pageAt_c1_l1 a_x a_target ((a_x.length:Int)) ((0,(a_x.length:Int)))).bind fun r8=>if r8.2.2.2 < r8.2.2.1 then if 0 ≤ r8.2.2.2 then (r8.1[(r8.2.2.2).toNat]?).bind fun x9=>(impl_pageAt_c1 x9 r8.2.1).bind fun r10=>some (r8.2.2.2,(decide (r10 = 0))) else none else some (r8.2.2.2,false)
@[simp] def g0_O:(Int × Bool) → TV × List Blk:=fun r=>((.tup [(.int .i64 r.1),(.bool r.2)]),[])
def g0_E (a:(List (Int × Str)) × Int):List TV:=[(.vs (rows a.1)),(.int .i64 a.2),(.fn 187 [] [])]
theorem g0_run (a_x:List (Int × Str)) (a_target:Int) :callFn (X g0_S) g0_tf (g0_E (a_x,a_target)) [] = (slices_BinarySearchFunc_impl_Page_impl_Page_int64__pageAt_c1 a_x a_target).map g0_O:=by
  rw [callFn_eq]
  simp (maxSteps:=2000000) (maxDischargeDepth:=8) -implicitDefEqProofs [g0_tf,slices_BinarySearchFunc_impl_Page_impl_Page_int64__pageAt_c1,g0_E] <;> (try simp only [map_to_bind,g0_O])
def g0_r:Rule:=RlO g0_E (fun a=>slices_BinarySearchFunc_impl_Page_impl_Page_int64__pageAt_c1 a.1 a.2) g0_O
theorem g0_ok:RuleOk Tryz.prog 186 g0_r:=ok_rlo (S:=g0_S) (tf:=g0_tf) (SysOk.on ⟨g73_ok,trivial⟩ trivial) (trE_ok (ks:=[[0,1,2,8,9,10]]) Tryz.func186 (by kernel_rfl)) fun a=>g0_run a.1 a.2
@[simp] theorem g0_app (y0 y1):g0_r [(.vs (rows y0)),(.int .i64 y1),(.fn 187 [] [])] = (slices_BinarySearchFunc_impl_Page_impl_Page_int64__pageAt_c1 y0 y1).map g0_O :=
  RlO_app (enc:=g0_E) (by intro a b h; simp [g0_E,Prod.ext_iff] at h ⊢; simp [h]) (y0,y1)
/-! impl.pageAt -/
def g129_tf:TFn:=⟨(.seq (.ops [oo 4 (.mv (ki 0)),oo 5 (.mv (kb false))]) (.trim [0,1] (.seq (.ops [mo 6 0,mo 7 1,oo 8 (.call 186 [.t 6,.t 7,(.c (.fn 187 [] []))]),oo 9 (.ext (.t 8) 0),oo 10 (.ext (.t 8) 1),mo 4 9,mo 5 10]) (.keep ⟨[(4,0),(5,0)],[],0⟩ .ret)))),[.t 4,.t 5]⟩
abbrev g129_S:=Sys.on [(186,g0_r)] []
def impl_pageAt (a_list:List (Int × Str)) (a_block:Int):Option (Int × Bool):=(slices_BinarySearchFunc_impl_Page_impl_Page_int64__pageAt_c1 a_list a_block).bind fun r1=>some (r1.1,r1.2)
@[simp] def g129_O:(Int × Bool) → TV × List Blk:=fun r=>((.tup [(.int .i64 r.1),(.bool r.2)]),[])
def g129_E (a:(List (Int × Str)) × Int):List TV:=[(.vs (rows a.1)),(.int .i64 a.2)]
theorem g129_run (a_list:List (Int × Str)) (a_block:Int) :callFn (X g129_S) g129_tf (g129_E (a_list,a_block)) [] = (impl_pageAt a_list a_block).map g129_O:=by
  rw [callFn_eq]
  simp (maxSteps:=2000000) (maxDischargeDepth:=8) -implicitDefEqProofs [g129_tf,impl_pageAt,g129_E] <;> (try simp only [map_to_bind,g129_O])
def g129_r:Rule:=RlO g129_E (fun a=>impl_pageAt a.1 a.2) g129_O
theorem g129_ok:RuleOk Tryz.prog 151 g129_r:=ok_rlo (S:=g129_S) (tf:=g129_tf) (SysOk.on ⟨g0_ok,trivial⟩ trivial) (trE_ok (ks:=[]) Tryz.func151 (by kernel_rfl)) fun a=>g129_run a.1 a.2
@[simp] theorem g129_app (y0 y1):g129_r [(.vs (rows y0)),(.int .i64 y1)] = (impl_pageAt y0 y1).map g129_O :=
  RlO_app (enc:=g129_E) (by intro a b h; simp [g129_E,Prod.ext_iff] at h ⊢; simp [h]) (y0,y1)
/-! (impl.Disk).read -/
def impl_Disk_read (d:K0) (k:Int):Option Str:=readD d k
noncomputable def g74_r:Rule:=read_r
theorem g74_ok:RuleOk Tryz.prog 192 g74_r:=read_ok
@[simp] theorem g74_app (y0 y1 y2 y3 y4):g74_r [.agg [.vs (rows y0),.vs (rows y1),.int .i64 y2,.bool y3],.int .i64 y4] = (impl_Disk_read (y0,y1,y2,y3) y4).map (fun r=>(.str r,[])):=read_app y0 y1 y2 y3 y4
/-! (*impl.Pager).committed -/
def g23_tf:TFn:=⟨(.seq (.ops [oo 4 (.mv (.c (.str [])))]) (.trim [0,1] (.seq (.seq (.ops [mo 8 0,nk 9 8,fa 10 10 9,ld 11 10,mo 12 1,ca 13 151 [.t 11,.t 12],mo 7 13,oo 14 (.ext (.t 7) 0),oo 15 (.ext (.t 7) 1),mo 5 14,mo 6 15]) (.trim [0,1,5,6] (.seq (.ops [mo 16 6]) (.trim [0,1,5,16] (.cond (.t 16) (.seq (.ops [mo 17 0,nk 18 17,fa 19 10 18,ld 20 19,mo 21 5,ia 22 2 20 21,fa 23 1 22,ld 24 23,mo 4 24]) (.keep ⟨[(4,0)],[],0⟩ .ret)) .skip))))) (.trim [0,1] (.seq (.ops [mo 25 0,nk 26 25,fa 27 0 26,ln 28 4 27,mo 29 1,ca 30 192 [.t 28,.t 29],mo 4 30]) (.keep ⟨[(4,0)],[],0⟩ .ret)))))),[.t 4]⟩
abbrev g23_S:=Sys.on [(151,g129_r),(192,g74_r)] []
def impl_Pager_committed (a_p:K1) (a_k:Int):Option (Str):=(impl_pageAt a_p.2.2.2.2.1 a_k).bind fun r1=>if r1.2 = true then if 0 ≤ r1.1 then (a_p.2.2.2.2.1[(r1.1).toNat]?).bind fun x2=>some x2.2 else none else (impl_Disk_read a_p.1 a_k).bind fun r3=>some r3
@[simp] def g23_O:Str → TV × List Blk:=fun r=>((.str r),[])
def g23_E (a:K1 × Int × List TV):List TV:=[(.vp ((.vs (rows a.1.1.1))::(.vs (rows a.1.1.2.1))::(.int .i64 a.1.1.2.2.1)::(.bool a.1.1.2.2.2)::(.int .i64 a.1.2.1.1)::(.int .i64 a.1.2.1.2.1)::(.int .i64 a.1.2.1.2.2.1)::(.int .i64 a.1.2.1.2.2.2)::(.int .i64 a.1.2.2.1)::(.int .i64 a.1.2.2.2.1)::(.vs (rows a.1.2.2.2.2.1))::(.vs (rows a.1.2.2.2.2.2))::a.2.2)),(.int .i64 a.2.1)]
theorem g23_run (a_p:K1) (a_k:Int) (q0:List TV):callFn (X g23_S) g23_tf (g23_E (a_p,a_k,q0)) [] = (impl_Pager_committed a_p a_k).map g23_O:=by
  rw [callFn_eq]
  simp (maxSteps:=2000000) (maxDischargeDepth:=8) -implicitDefEqProofs [g23_tf,impl_Pager_committed,g23_E] <;> (try simp only [map_to_bind,g23_O])
def g23_r:Rule:=RlO g23_E (fun a=>impl_Pager_committed a.1 a.2.1) g23_O
theorem g23_ok:RuleOk Tryz.prog 154 g23_r:=ok_rlo (S:=g23_S) (tf:=g23_tf) (SysOk.on ⟨g129_ok,g74_ok,trivial⟩ trivial) (trE_ok (ks:=[]) Tryz.func154 (by kernel_rfl)) fun a=>g23_run a.1 a.2.1 a.2.2
@[simp] theorem g23_app (y0 y1 y2 y3 y4 y5 y6 y7 y8 y9 y10 y11 y12)(q0:List TV):g23_r [(.vp ((.vs (rows y0))::(.vs (rows y1))::(.int .i64 y2)::(.bool y3)::(.int .i64 y4)::(.int .i64 y5)::(.int .i64 y6)::(.int .i64 y7)::(.int .i64 y8)::(.int .i64 y9)::(.vs (rows y10))::(.vs (rows y11))::q0)),(.int .i64 y12)] = (impl_Pager_committed (((y0,y1,y2,y3),(y4,y5,y6,y7),y8,y9,y10,y11)) y12).map g23_O :=
  RlO_app (enc:=g23_E) (by intro a b h; simp [g23_E,Prod.ext_iff] at h ⊢; simp [h]) (((y0,y1,y2,y3),(y4,y5,y6,y7),y8,y9,y10,y11),y12,q0)
/-! (*impl.Pager).get -/
def g75_tf:TFn:=⟨(.seq (.ops [oo 4 (.mv (.c (.str [])))]) (.trim [0,1] (.seq (.seq (.ops [mo 8 0,nk 9 8,fa 10 11 9,ld 11 10,mo 12 1,ca 13 151 [.t 11,.t 12],mo 7 13,oo 14 (.ext (.t 7) 0),oo 15 (.ext (.t 7) 1),mo 5 14,mo 6 15]) (.trim [0,1,5,6] (.seq (.ops [mo 16 6]) (.trim [0,1,5,16] (.cond (.t 16) (.seq (.ops [mo 17 0,nk 18 17,fa 19 11 18,ld 20 19,mo 21 5,ia 22 2 20 21,fa 23 1 22,ld 24 23,mo 4 24]) (.keep ⟨[(4,0)],[],0⟩ .ret)) .skip))))) (.trim [0,1] (.seq (.ops [mo 25 0,mo 26 1,ca 27 154 [.t 25,.t 26],mo 4 27]) (.keep ⟨[(4,0)],[],0⟩ .ret)))))),[.t 4]⟩
abbrev g75_S:=Sys.on [(151,g129_r),(154,g23_r)] []
def impl_Pager_get (a_p:K1) (a_k:Int):Option (Str):=(impl_pageAt a_p.2.2.2.2.2 a_k).bind fun r1=>if r1.2 = true then if 0 ≤ r1.1 then (a_p.2.2.2.2.2[(r1.1).toNat]?).bind fun x2=>some x2.2 else none else (impl_Pager_committed a_p a_k).bind fun r3=>some r3
@[simp] def g75_O:Str → TV × List Blk:=fun r=>((.str r),[])
def g75_E (a:K1 × Int × List TV):List TV:=[(.vp ((.vs (rows a.1.1.1))::(.vs (rows a.1.1.2.1))::(.int .i64 a.1.1.2.2.1)::(.bool a.1.1.2.2.2)::(.int .i64 a.1.2.1.1)::(.int .i64 a.1.2.1.2.1)::(.int .i64 a.1.2.1.2.2.1)::(.int .i64 a.1.2.1.2.2.2)::(.int .i64 a.1.2.2.1)::(.int .i64 a.1.2.2.2.1)::(.vs (rows a.1.2.2.2.2.1))::(.vs (rows a.1.2.2.2.2.2))::a.2.2)),(.int .i64 a.2.1)]
theorem g75_run (a_p:K1) (a_k:Int) (q0:List TV):callFn (X g75_S) g75_tf (g75_E (a_p,a_k,q0)) [] = (impl_Pager_get a_p a_k).map g75_O:=by
  rw [callFn_eq]
  simp (maxSteps:=2000000) (maxDischargeDepth:=8) -implicitDefEqProofs [g75_tf,impl_Pager_get,g75_E] <;> (try simp only [map_to_bind,g75_O])
def g75_r:Rule:=RlO g75_E (fun a=>impl_Pager_get a.1 a.2.1) g75_O
theorem g75_ok:RuleOk Tryz.prog 115 g75_r:=ok_rlo (S:=g75_S) (tf:=g75_tf) (SysOk.on ⟨g129_ok,g23_ok,trivial⟩ trivial) (trE_ok (ks:=[]) Tryz.func115 (by kernel_rfl)) fun a=>g75_run a.1 a.2.1 a.2.2
@[simp] theorem g75_app (y0 y1 y2 y3 y4 y5 y6 y7 y8 y9 y10 y11 y12)(q0:List TV):g75_r [(.vp ((.vs (rows y0))::(.vs (rows y1))::(.int .i64 y2)::(.bool y3)::(.int .i64 y4)::(.int .i64 y5)::(.int .i64 y6)::(.int .i64 y7)::(.int .i64 y8)::(.int .i64 y9)::(.vs (rows y10))::(.vs (rows y11))::q0)),(.int .i64 y12)] = (impl_Pager_get (((y0,y1,y2,y3),(y4,y5,y6,y7),y8,y9,y10,y11)) y12).map g75_O :=
  RlO_app (enc:=g75_E) (by intro a b h; simp [g75_E,Prod.ext_iff] at h ⊢; simp [h]) (((y0,y1,y2,y3),(y4,y5,y6,y7),y8,y9,y10,y11),y12,q0)
/-! impl.getBits -/
def g110l1_cb:TC:=(.seq (.ops [bn 8 .lss (.t 7) (.t 6)]) (.trim [0,3,6,7,8] (.seq (.cond (.t 8) .skip (.keep ⟨[(3,0)],[],0⟩ (.exit 0))) (.trim [0,3,6,7] (.seq (.block 1 (.seq (.ops [mo 9 7,mo 4 9]) (.trim [0,3,4,6,7] (.ops [mo 10 3,mo 11 0,mo 12 4,oo 13 (.index (.t 11) (.t 12)),oo 14 (.conv (.toInt .u64) (.t 13)),mo 15 4,bn 16 .mul (ki 8) (.t 15),bn 17 .shl (.t 14) (.t 16),bn 18 .or (.t 10) (.t 17),mo 3 18])))) (.trim [0,3,6,7] (.after (.ops [bn 19 .add (.t 7) (ki 1),mo 7 19]) ⟨[(0,0),(3,0),(6,0),(7,0)],[],0⟩)))))))
def g110l1_c:TC:=.loop [0,3,6,7] g110l1_cb
def g110_tf:TFn:=⟨(.seq (.ops [oo 2 (.mv (.c (.int .u64 0)))]) (.trim [0] (.seq (.ops [oo 3 (.mv (.c (.int .u64 0)))]) (.trim [0,3] (.seq (.seq (.ops [mo 5 0,oo 6 (.len true (.t 5)),oo 7 (.mv (ki 0))]) (.trim [0,3,6,7] (.block 0 (.keep ⟨[(0,0),(3,0),(6,0),(7,0)],[],0⟩ g110l1_c)))) (.trim [3] (.seq (.ops [mo 20 3,mo 2 20]) (.keep ⟨[(2,0)],[],0⟩ .ret)))))))),[.t 2]⟩
abbrev g110_S:=Sys.on [] []
@[reducible,simp] def g110l1_F:Int → Out:=(fun t=>(.ext 0,[(3,(.int .u64 t))],[]))
def impl_getBits_l1_b (v1:Str) (v3:Int) (v2:Int) (v4:Int):Option ((Int × Int) ⊕ (Int)):=if v4 < v3 then if 0 ≤ v4 then (v1[(v4).toNat]?).bind fun (b5:UInt8)=>if (IntKind.i64.wrap (8 * v4)) < 0 then none else some (.inl ((bitV .or .u64 v2 ((shlV .u64 ((IntKind.u64.wrap ((b5.toNat:Int)))) ((IntKind.i64.wrap (8 * v4)))))),(IntKind.i64.wrap (v4 + 1)))) else none else some (.inr v2)
theorem g110l1_b_eq  (v1:Str) (v3:Int) (v2:Int) (v4:Int):X g110_S g110l1_cb (keepEnv [0,3,6,7] [(0,(.str v1)),(3,(.int .u64 v2)),(6,(.int .i64 v3)),(7,(.int .i64 v4))]) [] = (impl_getBits_l1_b v1 v3 v2 v4).map (Sum.elim (fun s=>(TX.nrm,[(0,(.str v1)),(3,(.int .u64 s.1)),(6,(.int .i64 v3)),(7,(.int .i64 s.2))],[])) g110l1_F):=by
  simp (maxSteps:=2000000) (maxDischargeDepth:=8) -implicitDefEqProofs [g110l1_cb,impl_getBits_l1_b] <;> (try simp only [map_to_bind,g110l1_F])
def impl_getBits_l1 (v1:Str) (v3:Int) (s:Int × Int):Option (Int):=loopO (fun s=>impl_getBits_l1_b v1 v3 s.1 s.2) s
@[simp] theorem g110l1_eq (y0 y1 y2 y3):X g110_S g110l1_c [(0,(.str y0)),(3,(.int .u64 y1)),(6,(.int .i64 y2)),(7,(.int .i64 y3))] [] = (impl_getBits_l1 y0 y2 (y1,y3)).map g110l1_F:=by
  exact loop_X _ _ _ _ (by intro r; first | (simp; done) | (rcases r with r | r <;> simp; done) | (rcases r with r | r | r <;> simp; done) | (rcases r with r | r | r | r <;> simp)) (fun s=>g110l1_b_eq  y0 y2 s.1 s.2) (y1,y3)
def impl_getBits (a_s:Str):Option (Int):=(impl_getBits_l1 a_s ((a_s.length:Int)) ((0,0))).bind fun r6=>some r6
@[simp] def g110_O:Int → TV × List Blk:=fun r=>((.int .u64 r),[])
def g110_E (a:Str):List TV:=[(.str a)]
theorem g110_run (a_s:Str) :callFn (X g110_S) g110_tf (g110_E a_s) [] = (impl_getBits a_s).map g110_O:=by
  rw [callFn_eq]
  simp (maxSteps:=2000000) (maxDischargeDepth:=8) -implicitDefEqProofs [g110_tf,impl_getBits,g110_E] <;> (try simp only [map_to_bind,g110_O])
def g110_r:Rule:=RlO g110_E (fun a=>impl_getBits a) g110_O
theorem g110_ok:RuleOk Tryz.prog 139 g110_r:=ok_rlo (S:=g110_S) (tf:=g110_tf) (SysOk.on trivial trivial) (trE_ok (ks:=[[0,3,6,7]]) Tryz.func139 (by kernel_rfl)) fun a=>g110_run a
@[simp] theorem g110_app (y0):g110_r [(.str y0)] = (impl_getBits y0).map g110_O :=
  RlO_app (enc:=g110_E) (by intro a b h; simp [g110_E,Prod.ext_iff] at h ⊢; simp [h]) y0
/-! (*impl.Pager).root -/
def g62_tf:TFn:=⟨(.seq (.ops [oo 2 (.mv (ki 0))]) (.trim [0] (.seq (.ops [mo 3 0,mo 4 0,ca 5 121 [.t 4],ca 6 115 [.t 3,.t 5],oo 7 (.sliceS (.t 6) none (some (ki 2))),ca 8 139 [.t 7],oo 9 (.conv (.toInt .i64) (.t 8)),mo 2 9]) (.keep ⟨[(2,0)],[],0⟩ .ret)))),[.t 2]⟩
abbrev g62_S:=Sys.on [(121,g60_r),(115,g75_r),(139,g110_r)] []
def impl_Pager_root (a_p:K1):Option (Int):=(impl_Pager_area a_p).bind fun r1=>(impl_Pager_get a_p r1).bind fun r2=>(subL r2 none (some 2)).bind fun s3=>(impl_getBits s3).bind fun r4=>some ((IntKind.i64.wrap r4))
@[simp] def g62_O:Int → TV × List Blk:=fun r=>((.int .i64 r),[])
def g62_E (a:K1 × List TV):List TV:=[(.vp ((.vs (rows a.1.1.1))::(.vs (rows a.1.1.2.1))::(.int .i64 a.1.1.2.2.1)::(.bool a.1.1.2.2.2)::(.int .i64 a.1.2.1.1)::(.int .i64 a.1.2.1.2.1)::(.int .i64 a.1.2.1.2.2.1)::(.int .i64 a.1.2.1.2.2.2)::(.int .i64 a.1.2.2.1)::(.int .i64 a.1.2.2.2.1)::(.vs (rows a.1.2.2.2.2.1))::(.vs (rows a.1.2.2.2.2.2))::a.2))]
theorem g62_run (a_p:K1) (q0:List TV):callFn (X g62_S) g62_tf (g62_E (a_p,q0)) [] = (impl_Pager_root a_p).map g62_O:=by
  rw [callFn_eq]
  simp (maxSteps:=2000000) (maxDischargeDepth:=8) -implicitDefEqProofs [g62_tf,impl_Pager_root,g62_E] <;> (try simp only [map_to_bind,g62_O])
def g62_r:Rule:=RlO g62_E (fun a=>impl_Pager_root a.1) g62_O
theorem g62_ok:RuleOk Tryz.prog 92 g62_r:=ok_rlo (S:=g62_S) (tf:=g62_tf) (SysOk.on ⟨g60_ok,g75_ok,g110_ok,trivial⟩ trivial) (trE_ok (ks:=[]) Tryz.func92 (by kernel_rfl)) fun a=>g62_run a.1 a.2
@[simp] theorem g62_app (y0 y1 y2 y3 y4 y5 y6 y7 y8 y9 y10 y11)(q0:List TV):g62_r [(.vp ((.vs (rows y0))::(.vs (rows y1))::(.int .i64 y2)::(.bool y3)::(.int .i64 y4)::(.int .i64 y5)::(.int .i64 y6)::(.int .i64 y7)::(.int .i64 y8)::(.int .i64 y9)::(.vs (rows y10))::(.vs (rows y11))::q0))] = (impl_Pager_root (((y0,y1,y2,y3),(y4,y5,y6,y7),y8,y9,y10,y11))).map g62_O :=
  RlO_app (enc:=g62_E) (by intro a b h; simp [g62_E,Prod.ext_iff] at h ⊢; simp [h]) (((y0,y1,y2,y3),(y4,y5,y6,y7),y8,y9,y10,y11),q0)
/-! impl.putBytes -/
def g87l1_cb:TC:=(.seq (.ops [bn 12 .lss (.t 11) (.t 10)]) (.trim [0,5,10,11,12] (.seq (.cond (.t 12) .skip (.keep ⟨[(5,1)],[(0,1)],0⟩ (.exit 0))) (.trim [0,5,10,11] (.seq (.block 1 (.seq (.ops [mo 13 11,mo 6 13]) (.trim [0,5,6,10,11] (.ops [mo 14 5,mo 15 6,mo 16 0,mo 17 6,bn 18 .mul (ki 8) (.t 17),bn 19 .shr (.t 16) (.t 18),oo 20 (.conv (.toInt .u8) (.t 19)),ia 21 1 14 15,⟨none,none,(.store 1 (.t 21) (.t 20))⟩])))) (.trim [0,5,10,11] (.after (.ops [bn 22 .add (.t 11) (ki 1),mo 11 22]) ⟨[(0,0),(5,1),(10,0),(11,0)],[(0,1)],0⟩)))))))
def g87l1_c:TC:=.loop [0,5,10,11] g87l1_cb
def g87_tf:TFn:=⟨(.seq (.ops [oo 4 (.mv (.c (.str [])))]) (.trim [0,1] (.seq (.ops [mo 7 1,oo 8 (.mkslice 1 [(.int .u8 0)] (.t 7) (.t 7)),mo 5 8]) (.trim [0,5] (.seq (.seq (.ops [mo 9 5,le 10 9,oo 11 (.mv (ki 0))]) (.trim [0,5,10,11] (.block 0 (.keep ⟨[(0,0),(5,1),(10,0),(11,0)],[(0,1)],0⟩ g87l1_c)))) (.trim [5] (.seq (.ops [mo 23 5,oo 24 (.conv .toStr (.t 23)),mo 4 24]) (.keep ⟨[(4,0)],[],0⟩ .ret)))))))),[.t 4]⟩
abbrev g87_S:=Sys.on [] []
@[reducible,simp] def g87l1_F:(List Bt) → Out:=(fun t=>(.ext 0,[(5,(ow 0 t.length))],[(ob 1 t)]))
def impl_putBytes_l1_b (v2:Int) (v4:Int) (v3:List Bt) (v5:Int):Option ((List Bt × Int) ⊕ (List Bt)):=if v5 < v4 then if (IntKind.i64.wrap (8 * v5)) < 0 then none else if 0 ≤ v5 ∧ v5 < ((v3.length:Nat):Int) then (v3[(v5).toNat]?).bind fun x6=>some (.inl ((v3.set (v5).toNat (⟨UInt8.ofNat ((IntKind.u8.wrap ((shrV .i64 v2 ((IntKind.i64.wrap (8 * v5))))))).toNat⟩:Bt)),(IntKind.i64.wrap (v5 + 1)))) else none else some (.inr v3)
theorem g87l1_b_eq  (v2:Int) (v4:Int) (v3:List Bt) (v5:Int):X g87_S g87l1_cb (keepEnv [0,5,10,11] [(0,(.int .i64 v2)),(5,(ow 0 v3.length)),(10,(.int .i64 v4)),(11,(.int .i64 v5))]) [(ob 1 v3)] = (impl_putBytes_l1_b v2 v4 v3 v5).map (Sum.elim (fun s=>(TX.nrm,[(0,(.int .i64 v2)),(5,(ow 0 s.1.length)),(10,(.int .i64 v4)),(11,(.int .i64 s.2))],[(ob 1 s.1)])) g87l1_F):=by
  simp (maxSteps:=2000000) (maxDischargeDepth:=8) -implicitDefEqProofs [g87l1_cb,impl_putBytes_l1_b,mksliceV_typed (z:=((⟨0⟩:Bt):Bt)) (zs:=[(.int .u8 0)]) rfl (by decide)] <;> (try simp only [map_to_bind,g87l1_F])
def impl_putBytes_l1 (v2:Int) (v4:Int) (s:List Bt × Int):Option (List Bt):=loopO (fun s=>impl_putBytes_l1_b v2 v4 s.1 s.2) s
@[simp] theorem g87l1_eq (y0)(y1:List Bt)(y2 y3){n1:Nat}(h1:n1 = y1.length):X g87_S g87l1_c [(0,(.int .i64 y0)),(5,(ow 0 n1)),(10,(.int .i64 y2)),(11,(.int .i64 y3))] [(ob 1 y1)] = (impl_putBytes_l1 y0 y2 (y1,y3)).map g87l1_F:=by
  subst h1
  exact loop_X _ _ _ _ (by intro r; first | (simp; done) | (rcases r with r | r <;> simp; done) | (rcases r with r | r | r <;> simp; done) | (rcases r with r | r | r | r <;> simp)) (fun s=>g87l1_b_eq  y0 y2 s.1 s.2) (y1,y3)
def impl_putBytes (a_n:Int) (a_size:Int):Option (Str):=(mkL 1 a_size a_size ((⟨0⟩:Bt):Bt)).bind fun l1=>(impl_putBytes_l1 a_n (((l1.length:Nat):Int)) ((l1,0))).bind fun r7=>some ((r7.map Bt.v))
@[simp] def g87_O:Str → TV × List Blk:=fun r=>((.str r),[])
def g87_E (a:Int × Int):List TV:=[(.int .i64 a.1),(.int .i64 a.2)]
theorem g87_run (a_n:Int) (a_size:Int) :callFn (X g87_S) g87_tf (g87_E (a_n,a_size)) [] = (impl_putBytes a_n a_size).map g87_O:=by
  rw [callFn_eq]
  simp (maxSteps:=2000000) (maxDischargeDepth:=8) -implicitDefEqProofs [g87_tf,impl_putBytes,g87_E,mksliceV_typed (z:=((⟨0⟩:Bt):Bt)) (zs:=[(.int .u8 0)]) rfl (by decide)] <;> (try simp only [map_to_bind,g87_O])
def g87_r:Rule:=RlO g87_E (fun a=>impl_putBytes a.1 a.2) g87_O
theorem g87_ok:RuleOk Tryz.prog 145 g87_r:=ok_rlo (S:=g87_S) (tf:=g87_tf) (SysOk.on trivial trivial) (trE_ok (ks:=[[0,5,10,11]]) Tryz.func145 (by kernel_rfl)) fun a=>g87_run a.1 a.2
@[simp] theorem g87_app (y0 y1):g87_r [(.int .i64 y0),(.int .i64 y1)] = (impl_putBytes y0 y1).map g87_O :=
  RlO_app (enc:=g87_E) (by intro a b h; simp [g87_E,Prod.ext_iff] at h ⊢; simp [h]) (y0,y1)
/-! impl.putName -/
def g111_tf:TFn:=⟨(.seq (.ops [oo 2 (.mv (.c (.str [])))]) (.trim [0] (.seq (.ops [mo 3 0,oo 4 (.len true (.t 3)),ca 5 145 [.t 4,ki 1],mo 6 0,oo 7 (.bin .str .add (.t 5) (.t 6)),mo 2 7]) (.keep ⟨[(2,0)],[],0⟩ .ret)))),[.t 2]⟩
abbrev g111_S:=Sys.on [(145,g87_r)] []
def impl_putName (a_s:Str):Option (Str):=(impl_putBytes ((a_s.length:Int)) 1).bind fun r1=>if r1.length + a_s.length ≤ 9223372036854775807 then some ((r1 ++ a_s)) else none
@[simp] def g111_O:Str → TV × List Blk:=fun r=>((.str r),[])
def g111_E (a:Str):List TV:=[(.str a)]
theorem g111_run (a_s:Str) :callFn (X g111_S) g111_tf (g111_E a_s) [] = (impl_putName a_s).map g111_O:=by
  rw [callFn_eq]
  simp (maxSteps:=2000000) (maxDischargeDepth:=8) -implicitDefEqProofs [g111_tf,impl_putName,g111_E] <;> (try simp only [map_to_bind,g111_O])
def g111_r:Rule:=RlO g111_E (fun a=>impl_putName a) g111_O
theorem g111_ok:RuleOk Tryz.prog 176 g111_r:=ok_rlo (S:=g111_S) (tf:=g111_tf) (SysOk.on ⟨g87_ok,trivial⟩ trivial) (trE_ok (ks:=[]) Tryz.func176 (by kernel_rfl)) fun a=>g111_run a
@[simp] theorem g111_app (y0):g111_r [(.str y0)] = (impl_putName y0).map g111_O :=
  RlO_app (enc:=g111_E) (by intro a b h; simp [g111_E,Prod.ext_iff] at h ⊢; simp [h]) y0
/-! (impl.NameHeap).encode -/
def g24l1_cb:TC:=(.seq (.ops [bn 14 .lss (.t 13) (.t 12)]) (.trim [3,11,12,13,14] (.seq (.cond (.t 14) .skip (.keep ⟨[(3,0)],[],0⟩ (.exit 0))) (.trim [3,11,12,13] (.seq (.block 1 (.seq (.ops [ia 15 1 11 13,ld 16 15,mo 5 16]) (.trim [3,5,11,12,13] (.ops [mo 17 3,mo 18 5,ca 19 176 [.t 18],oo 20 (.bin .str .add (.t 17) (.t 19)),mo 3 20])))) (.trim [3,11,12,13] (.after (.ops [bn 21 .add (.t 13) (ki 1),mo 13 21]) ⟨[(3,0),(11,0),(12,0),(13,0)],[],0⟩)))))))
def g24l1_c:TC:=.loop [3,11,12,13] g24l1_cb
def g24_tf:TFn:=⟨(.seq (.ops [bx 1 0,oo 2 (.mv (.c (.str [])))]) (.trim [1] (.seq (.ops [fa 6 0 1,ld 7 6,le 8 7,ca 9 145 [.t 8,ki 1],mo 3 9]) (.trim [1,3] (.seq (.seq (.ops [fa 10 0 1,ld 11 10,le 12 11,oo 13 (.mv (ki 0))]) (.trim [3,11,12,13] (.block 0 (.keep ⟨[(3,0),(11,0),(12,0),(13,0)],[],0⟩ g24l1_c)))) (.trim [3] (.seq (.ops [mo 22 3,mo 2 22]) (.keep ⟨[(2,0)],[],0⟩ .ret)))))))),[.t 2]⟩
abbrev g24_S:=Sys.on [(145,g87_r),(176,g111_r)] []
@[reducible,simp] def g24l1_F:Str → Out:=(fun t=>(.ext 0,[(3,(.str t))],[]))
def impl_NameHeap_encode_l1_b (v3:List Str) (v4:Int) (v2:Str) (v5:Int):Option ((Str × Int) ⊕ (Str)):=if v5 < v4 then if 0 ≤ v5 then (v3[(v5).toNat]?).bind fun x6=>(impl_putName x6).bind fun r7=>if v2.length + r7.length ≤ 9223372036854775807 then some (.inl ((v2 ++ r7),(IntKind.i64.wrap (v5 + 1)))) else none else none else some (.inr v2)
theorem g24l1_b_eq  (v3:List Str) (v4:Int) (v2:Str) (v5:Int):X g24_S g24l1_cb (keepEnv [3,11,12,13] [(3,(.str v2)),(11,(.vs (rows v3))),(12,(.int .i64 v4)),(13,(.int .i64 v5))]) [] = (impl_NameHeap_encode_l1_b v3 v4 v2 v5).map (Sum.elim (fun s=>(TX.nrm,[(3,(.str s.1)),(11,(.vs (rows v3))),(12,(.int .i64 v4)),(13,(.int .i64 s.2))],[])) g24l1_F):=by
  simp (maxSteps:=2000000) (maxDischargeDepth:=8) -implicitDefEqProofs [g24l1_cb,impl_NameHeap_encode_l1_b] <;> (try simp only [map_to_bind,g24l1_F])
def impl_NameHeap_encode_l1 (v3:List Str) (v4:Int) (s:Str × Int):Option (Str):=loopO (fun s=>impl_NameHeap_encode_l1_b v3 v4 s.1 s.2) s
@[simp] theorem g24l1_eq (y0 y1 y2 y3):X g24_S g24l1_c [(3,(.str y0)),(11,(.vs (rows y1))),(12,(.int .i64 y2)),(13,(.int .i64 y3))] [] = (impl_NameHeap_encode_l1 y1 y2 (y0,y3)).map g24l1_F:=by
  exact loop_X _ _ _ _ (by intro r; first | (simp; done) | (rcases r with r | r <;> simp; done) | (rcases r with r | r | r <;> simp; done) | (rcases r with r | r | r | r <;> simp)) (fun s=>g24l1_b_eq  y1 y2 s.1 s.2) (y0,y3)
def impl_NameHeap_encode (a_h:List Str):Option (Str):=(impl_putBytes ((a_h.length:Int)) 1).bind fun r1=>(impl_NameHeap_encode_l1 a_h ((a_h.length:Int)) ((r1,0))).bind fun r8=>some r8
@[simp] def g24_O:Str → TV × List Blk:=fun r=>((.str r),[])
def g24_E (a:List Str):List TV:=[(.agg [(.vs (rows a))])]
theorem g24_run (a_h:List Str) :callFn (X g24_S) g24_tf (g24_E a_h) [] = (impl_NameHeap_encode a_h).map g24_O:=by
  rw [callFn_eq]
  simp (maxSteps:=2000000) (maxDischargeDepth:=8) -implicitDefEqProofs [g24_tf,impl_NameHeap_encode,g24_E] <;> (try simp only [map_to_bind,g24_O])
def g24_r:Rule:=RlO g24_E (fun a=>impl_NameHeap_encode a) g24_O
theorem g24_ok:RuleOk Tryz.prog 144 g24_r:=ok_rlo (S:=g24_S) (tf:=g24_tf) (SysOk.on ⟨g87_ok,g111_ok,trivial⟩ trivial) (trE_ok (ks:=[[3,11,12,13]]) Tryz.func144 (by kernel_rfl)) fun a=>g24_run a
@[simp] theorem g24_app (y0):g24_r [(.agg [(.vs (rows y0))])] = (impl_NameHeap_encode y0).map g24_O :=
  RlO_app (enc:=g24_E) (by intro a b h; simp [g24_E,Prod.ext_iff] at h ⊢; simp [h]) y0
@[simp] theorem g24_app_a_h :g24_r [(.agg [(.vs [])])] = (impl_NameHeap_encode (([]:List Str))).map g24_O :=
  g24_app ([]:List Str) 
/-! impl.emptyGroup -/
def g63_tf:TFn:=⟨(.seq (.ops [oo 0 (.alloc [(.int .i64 0),(.int .i64 0),.nils])]) (.trim [0] (.seq (.ops [oo 1 (.build [.nils] []),ca 2 144 [.t 1],oo 3 (.build [(.int .i64 0),(.int .i64 0),(.str [])] [(0,1,(ki 9)),(2,1,(.t 2))]),oo 4 (.build [(.int .i64 0),(.int .i64 0),(.str [])] [(0,1,(ki 7))]),oo 5 (.bslice [(.int .i64 0),(.int .i64 0),(.str [])] 2 [(0,(.t 3)),(1,(.t 4))]),oo 6 (.build [(.int .i64 0),(.int .i64 0),.nils] [(0,1,(ki 1)),(1,1,(ki 1)),(2,1,(.t 5))]),⟨none,none,(.store 3 (.t 0) (.t 6))⟩]) (.keep ⟨[(0,0)],[(0,2),(1,1)],0⟩ .ret)))),[.cell 0 (some 3)]⟩
abbrev g63_S:=Sys.on [(144,g24_r)] []
def impl_emptyGroup :Option (K2):=(impl_NameHeap_encode (([]:List Str))).bind fun r1=>some ((1,1,(lit [(9,0,r1),(7,0,([]:Str))]:List (Int × Int × Str))))
@[simp] def g63_O:(K2) → TV × List Blk:=fun r=>((.agg [(.int .i64 r.1),(.int .i64 r.2.1),(ow 1 r.2.2.length)]),[(.live 3 [[(.int .i64 r.1),(.int .i64 r.2.1),(ow 1 r.2.2.length)]]),(ob 3 r.2.2)])
def g63_E (a:Unit):List TV:=[]
theorem g63_run  :callFn (X g63_S) g63_tf (g63_E ()) [] = (impl_emptyGroup ).map g63_O:=by
  rw [callFn_eq]
  simp (maxSteps:=2000000) (maxDischargeDepth:=8) -implicitDefEqProofs [g63_tf,impl_emptyGroup,g63_E,bslV_lit (α:=Int × Int × Str) (zs:=[(.int .i64 0),(.int .i64 0),(.str [])])] <;> (try simp only [map_to_bind,g63_O])
def g63_r:Rule:=RlO g63_E (fun a=>impl_emptyGroup ) g63_O
theorem g63_ok:RuleOk Tryz.prog 94 g63_r:=ok_rlo (S:=g63_S) (tf:=g63_tf) (SysOk.on ⟨g24_ok,trivial⟩ trivial) (trE_ok (ks:=[]) Tryz.func94 (by kernel_rfl)) fun a=>g63_run 
@[simp] theorem g63_app :g63_r [] = (impl_emptyGroup ).map g63_O :=
  RlO_app (enc:=g63_E) (by intro a b h; rfl) ()
/-! (*strings.Builder).copyCheck -/
noncomputable def g16_r:MRule:=copy_r 145 5
theorem g16_ok:MRuleOk Tryz.prog 153 2 g16_r:=copyCheck_ok
@[simp] theorem g16_app (l:List Bt) {n:Nat} (h:n = l.length):g16_r [.ptr 0 0 0] [.live 2 [[.bself 0 145,owb 1 n 5]],ob 1 l] = some (.tup [],[.live 2 [[.bself 0 145,owb 1 l.length 5]],ob 1 l]):=copy_app 145 5 l h
/-! (*strings.Builder).WriteString -/
def g11_tf:TFn:=⟨(.seq (.ops [oo 4 (.mv (ki 0)),oo 5 (.mv (.c .nili))]) (.trim [0,1] (.seq (.ops [mo 6 0,oo 7 (.callM 153 0 [0,1] [.t 6])]) (.trim [0,1] (.seq (.ops [mo 8 0,mo 9 0,nk 10 9,fa 11 1 10,ld 12 11,mo 13 1,oo 14 (.append 5 1 1 (.t 12) (.t 13)),nk 15 8,fa 16 1 15,⟨none,none,(.store 1 (.t 16) (.t 14))⟩]) (.trim [1] (.seq (.ops [mo 17 1,oo 18 (.len true (.t 17)),mo 4 18,oo 5 (.mv (.c .nili))]) (.keep ⟨[(4,0),(5,0)],[(0,0),(2,0)],1⟩ .ret)))))))),[.t 4,.t 5]⟩
abbrev g11_S:=Sys.on [] [((153,0),(2,g16_r))]
def strings_Builder_WriteString_o0d (a1:List Bt) (a2:Str):Option (List Bt × Int):=(appL 1 a1 ((a2.map Bt.mk))).bind fun l2=>some (l2,(a2.length:Int))
@[simp] def g11_O:(List Bt × Int) → TV × List Blk:=fun r=>((.tup [(.int .i64 r.2),.nili]),[(.live 2 [[(.bself 0 145),(owb 1 r.1.length 5)]]),(ob 1 r.1)])
abbrev g11_T:=List Bt × Str
def g11_E (a:g11_T):List TV:=[(.ptr 0 0 0),(.str a.2)]
def g11_B (a:g11_T):List Blk:=[(.live 2 [[(.bself 0 145),(owb 1 a.1.length 5)]]),(ob 1 a.1)]
theorem g11_run (a1:List Bt) (a2:Str):callFn (X g11_S) g11_tf (g11_E (a1,a2)) (g11_B (a1,a2)) = (strings_Builder_WriteString_o0d a1 a2).map g11_O:=by
  rw [callFn_eq]
  simp (maxSteps:=2000000) (maxDischargeDepth:=8) -implicitDefEqProofs [g11_tf,strings_Builder_WriteString_o0d,g11_E,g11_B] <;> (try simp only [map_to_bind,g11_O])
def g11_r:MRule:=RmO g11_E g11_B (fun a=>strings_Builder_WriteString_o0d a.1 a.2) g11_O
theorem g11_ok:MRuleOk Tryz.prog 114 1 g11_r:=ok_rmo (S:=g11_S) (tf:=g11_tf) (SysOk.on trivial ⟨g16_ok,trivial⟩) (trE_ok (ks:=[]) Tryz.func114 (by kernel_rfl)) (by rfl) (fun _=>by simp [g11_B]) (fun _=>by simp) fun a=>g11_run a.1 a.2
@[simp] theorem g11_app (y0:List Bt)(y1){n1:Nat}(h1:n1 = y0.length):g11_r [(.ptr 0 0 0),(.str y1)] [(.live 2 [[(.bself 0 145),(owb 1 n1 5)]]),(ob 1 y0)] = (strings_Builder_WriteString_o0d y0 y1).map g11_O:=by
  subst h1
  exact RmO_app (enc:=g11_E) (encB:=g11_B) (by intro a b h h2; simp [g11_E,g11_B,Prod.ext_iff] at h h2 ⊢; simp [h,h2]) (y0,y1)
/-! (*strings.Builder).String -/
def g15_tf:TFn:=⟨(.seq (.ops [oo 2 (.mv (.c (.str [])))]) (.trim [0] (.seq (.draw [([],mo 3 0),([0],nk 4 3),([0,1],fa 5 1 4),([0,1,2],ld 6 5),([0,1,2,3],oo 7 (.sdata (.t 6))),([],mo 8 0),([5],nk 9 8),([5,6],fa 10 1 9),([5,6,7],ld 11 10),([5,6,7,8],le 12 11)] [oo 13 (.ustr 5 (.t 7) (.t 12)),mo 2 13]) (.keep ⟨[(2,0)],[(0,4)],1⟩ .ret)))),[.t 2]⟩
abbrev g15_S:=Sys.on [] []
def strings_Builder_String_of5 (a1:List Bt):Option (Str):=(strB a1).bind fun s1=>some s1
@[simp] def g15_O:Str → TV × List Blk:=fun r=>((.str r),[.dead])
abbrev g15_T:=List Bt
def g15_E (a:g15_T):List TV:=[(.ptr 0 0 0)]
def g15_B (a:g15_T):List Blk:=[(.live 2 [[(.bself 0 145),(owb 1 a.length 5)]]),(ob 1 a)]
theorem g15_run (a1:List Bt):callFn (X g15_S) g15_tf (g15_E a1) (g15_B a1) = (strings_Builder_String_of5 a1).map g15_O:=by
  rw [callFn_eq]
  simp (maxSteps:=2000000) (maxDischargeDepth:=8) -implicitDefEqProofs [g15_tf,strings_Builder_String_of5,g15_E,g15_B] <;> (try simp only [map_to_bind,g15_O])
def g15_r:MRule:=RmO g15_E g15_B (fun a=>strings_Builder_String_of5 a) g15_O
theorem g15_ok:MRuleOk Tryz.prog 116 1 g15_r:=ok_rmo (S:=g15_S) (tf:=g15_tf) (SysOk.on trivial trivial) (trE_ok (ks:=[[10]]) Tryz.func116 (by kernel_rfl)) (by rfl) (fun _=>by simp [g15_B]) (fun _=>by simp) fun a=>g15_run a
@[simp] theorem g15_app (y0:List Bt){n1:Nat}(h1:n1 = y0.length):g15_r [(.ptr 0 0 0)] [(.live 2 [[(.bself 0 145),(owb 1 n1 5)]]),(ob 1 y0)] = (strings_Builder_String_of5 y0).map g15_O:=by
  subst h1
  exact RmO_app (enc:=g15_E) (encB:=g15_B) (by intro a b h h2; simp [g15_E,g15_B,Prod.ext_iff] at h h2 ⊢; simp [h,h2]) y0
/-! (impl.Header).encode -/
def g32l1_cb:TC:=(.seq (.ops [bn 23 .lss (.t 22) (.t 21)]) (.trim [3,20,21,22,23] (.seq (.cond (.t 23) .skip (.keep ⟨[(3,0)],[(0,0),(1,0)],0⟩ (.exit 0))) (.trim [3,20,21,22] (.seq (.block 1 (.seq (.ops [ia 24 3 20 22,ln 25 3 24,oo 5 (.alloc [(.int .i64 0),(.int .i64 0),(.str [])]),⟨none,none,(.store 3 (.t 5) (.t 25))⟩]) (.trim [3,5,20,21,22] (.draw [([],fa 26 0 5),([0],ld 27 26),([0,1],ca 28 145 [.t 27,ki 1]),([],fa 29 1 5),([3],ld 30 29),([0,1,2,3,4],ca 31 145 [.t 30,ki 1]),([0,1,2,3,4,5],oo 32 (.bin .str .add (.t 28) (.t 31))),([],fa 33 2 5),([7],ld 34 33),([7,8],oo 35 (.len true (.t 34))),([0,1,2,3,4,5,7,8,9],ca 36 145 [.t 35,ki 1]),([0,1,2,3,4,5,6,7,8,9,10],oo 37 (.bin .str .add (.t 32) (.t 36))),([],fa 38 2 5),([12],ld 39 38)] [oo 40 (.bin .str .add (.t 37) (.t 39)),oo 41 (.callM 114 0 [0,1] [.t 3,.t 40])])))) (.trim [3,20,21,22] (.after (.ops [bn 42 .add (.t 22) (ki 1),mo 22 42]) ⟨[(3,0),(20,0),(21,0),(22,0)],[(0,0),(3,0)],0⟩)))))))
def g32l1_c:TC:=.loop [3,20,21,22] g32l1_cb
def g32_tf:TFn:=⟨(.seq (.ops [bx 1 0,oo 2 (.mv (.c (.str [])))]) (.trim [1] (.seq (.ops [oo 3 (.allocB 145)]) (.trim [1,3] (.seq (.draw [([],fa 6 0 1),([0],ld 7 6),([0,1],ca 8 145 [.t 7,ki 1]),([],fa 9 1 1),([3],ld 10 9),([0,1,2,3,4],ca 11 145 [.t 10,ki 2]),([0,1,2,3,4,5],oo 12 (.bin .str .add (.t 8) (.t 11))),([],fa 13 2 1),([7],ld 14 13),([7,8],le 15 14),([0,1,2,3,4,5,7,8,9],ca 16 145 [.t 15,ki 1])] [oo 17 (.bin .str .add (.t 12) (.t 16)),oo 18 (.callM 114 0 [1,2] [.t 3,.t 17])]) (.trim [1,3] (.seq (.seq (.ops [fa 19 2 1,ld 20 19,le 21 20,oo 22 (.mv (ki 0))]) (.trim [3,20,21,22] (.block 0 (.keep ⟨[(3,0),(20,0),(21,0),(22,0)],[(1,0),(3,0)],0⟩ g32l1_c)))) (.trim [3] (.seq (.ops [oo 43 (.callM 116 0 [0,1] [.t 3]),mo 2 43]) (.keep ⟨[(2,0)],[],0⟩ .ret)))))))))),[.t 2]⟩
abbrev g32_S:=Sys.on [(145,g87_r)] [((114,0),(1,g11_r)),((116,0),(1,g15_r))]
@[reducible,simp] def g32l1_F:(List Bt) → Out:=(fun t=>(.ext 0,[(3,(.ptr 0 0 0))],[(.live 2 [[(.bself 0 145),(owb 1 t.length 5)]]),(ob 1 t)]))
def impl_Header_encode_l1_b (v6:List (Int × Int × Str)) (v7:Int) (v5:List Bt) (v8:Int):Option ((List Bt × Int) ⊕ (List Bt)):=if v8 < v7 then if 0 ≤ v8 then (v6[(v8).toNat]?).bind fun x9=>(impl_putBytes x9.1 1).bind fun r10=>(impl_putBytes x9.2.1 1).bind fun r11=>if r10.length + r11.length ≤ 9223372036854775807 then (impl_putBytes ((x9.2.2.length:Int)) 1).bind fun r12=>if ((r10 ++ r11)).length + r12.length ≤ 9223372036854775807 then if (((r10 ++ r11) ++ r12)).length + x9.2.2.length ≤ 9223372036854775807 then (strings_Builder_WriteString_o0d v5 ((((r10 ++ r11) ++ r12) ++ x9.2.2))).bind fun r13=>some (.inl (r13.1,(IntKind.i64.wrap (v8 + 1)))) else none else none else none else none else some (.inr v5)
theorem g32l1_b_eq  (v6:List (Int × Int × Str)) (v7:Int) (v5:List Bt) (v8:Int):X g32_S g32l1_cb (keepEnv [3,20,21,22] [(3,(.ptr 0 0 0)),(20,(.vs (rows v6))),(21,(.int .i64 v7)),(22,(.int .i64 v8))]) [(.live 2 [[(.bself 0 145),(owb 1 v5.length 5)]]),(ob 1 v5)] = (impl_Header_encode_l1_b v6 v7 v5 v8).map (Sum.elim (fun s=>(TX.nrm,[(3,(.ptr 0 0 0)),(20,(.vs (rows v6))),(21,(.int .i64 v7)),(22,(.int .i64 s.2))],[(.live 2 [[(.bself 0 145),(owb 1 s.1.length 5)]]),(ob 1 s.1)])) g32l1_F):=by
  simp (maxSteps:=2000000) (maxDischargeDepth:=8) -implicitDefEqProofs [g32l1_cb,impl_Header_encode_l1_b] <;> (try simp only [map_to_bind,g32l1_F])
def impl_Header_encode_l1 (v6:List (Int × Int × Str)) (v7:Int) (s:List Bt × Int):Option (List Bt):=loopO (fun s=>impl_Header_encode_l1_b v6 v7 s.1 s.2) s
@[simp] theorem g32l1_eq (y0 y1 y2 y3):X g32_S g32l1_c [(3,(.ptr 0 0 0)),(20,(.vs (rows y1))),(21,(.int .i64 y2)),(22,(.int .i64 y3))] [(.live 2 [[(.bself 0 145),(owb 1 y0.length 5)]]),(ob 1 y0)] = (impl_Header_encode_l1 y1 y2 (y0,y3)).map g32l1_F:=by
  exact loop_X _ _ _ _ (by intro r; first | (simp; done) | (rcases r with r | r <;> simp; done) | (rcases r with r | r | r <;> simp; done) | (rcases r with r | r | r | r <;> simp)) (fun s=>g32l1_b_eq  y1 y2 s.1 s.2) (y0,y3)
def impl_Header_encode (a_h:K2):Option (Str):=(impl_putBytes a_h.1 1).bind fun r1=>(impl_putBytes a_h.2.1 2).bind fun r2=>if r1.length + r2.length ≤ 9223372036854775807 then (impl_putBytes ((a_h.2.2.length:Int)) 1).bind fun r3=>if ((r1 ++ r2)).length + r3.length ≤ 9223372036854775807 then (strings_Builder_WriteString_o0d nilB (((r1 ++ r2) ++ r3))).bind fun r4=>(impl_Header_encode_l1 a_h.2.2 ((a_h.2.2.length:Int)) ((r4.1,0))).bind fun r14=>(strings_Builder_String_of5 r14).bind fun r15=>some r15 else none else none
@[simp] def g32_O:Str → TV × List Blk:=fun r=>((.str r),[])
def g32_E (a:K2):List TV:=[(.agg [(.int .i64 a.1),(.int .i64 a.2.1),(.vs (rows a.2.2))])]
theorem g32_run (a_h:K2) :callFn (X g32_S) g32_tf (g32_E a_h) [] = (impl_Header_encode a_h).map g32_O:=by
  rw [callFn_eq]
  simp (maxSteps:=2000000) (maxDischargeDepth:=8) -implicitDefEqProofs [g32_tf,impl_Header_encode,g32_E] <;> (try simp only [map_to_bind,g32_O])
def g32_r:Rule:=RlO g32_E (fun a=>impl_Header_encode a) g32_O
theorem g32_ok:RuleOk Tryz.prog 140 g32_r:=ok_rlo (S:=g32_S) (tf:=g32_tf) (SysOk.on ⟨g87_ok,trivial⟩ ⟨g11_ok,g15_ok,trivial⟩) (trE_ok (ks:=[[11],[3,20,21,22],[14]]) Tryz.func140 (by kernel_rfl)) fun a=>g32_run a
@[simp] theorem g32_app (y0 y1 y2):g32_r [(.agg [(.int .i64 y0),(.int .i64 y1),(.vs (rows y2))])] = (impl_Header_encode ((y0,y1,y2))).map g32_O :=
  RlO_app (enc:=g32_E) (by intro a b h; simp [g32_E,Prod.ext_iff] at h ⊢; simp [h]) ((y0,y1,y2))
/-! impl.chainLen -/
def g88_tf:TFn:=⟨(.seq (.ops [oo 2 (.mv (ki 0))]) (.trim [0] (.seq (.ops [mo 3 0,oo 4 (.len true (.t 3)),bn 5 .add (.t 4) (ki 60),bn 6 .sub (.t 5) (ki 1),bn 7 .quo (.t 6) (ki 60),mo 2 7]) (.keep ⟨[(2,0)],[],0⟩ .ret)))),[.t 2]⟩
abbrev g88_S:=Sys.on [] []
def impl_chainLen (a_form:Str):Option (Int):=some ((IntKind.i64.wrap (Int.tdiv ((IntKind.i64.wrap ((IntKind.i64.wrap ((a_form.length:Int) + 60)) - 1))) 60)))
@[simp] def g88_O:Int → TV × List Blk:=fun r=>((.int .i64 r),[])
def g88_E (a:Str):List TV:=[(.str a)]
theorem g88_run (a_form:Str) :callFn (X g88_S) g88_tf (g88_E a_form) [] = (impl_chainLen a_form).map g88_O:=by
  rw [callFn_eq]
  simp (maxSteps:=2000000) (maxDischargeDepth:=8) -implicitDefEqProofs [g88_tf,impl_chainLen,g88_E] <;> (try simp only [map_to_bind,g88_O])
def g88_r:Rule:=RlO g88_E (fun a=>impl_chainLen a) g88_O
theorem g88_ok:RuleOk Tryz.prog 142 g88_r:=ok_rlo (S:=g88_S) (tf:=g88_tf) (SysOk.on trivial trivial) (trE_ok (ks:=[]) Tryz.func142 (by kernel_rfl)) fun a=>g88_run a
@[simp] theorem g88_app (y0):g88_r [(.str y0)] = (impl_chainLen y0).map g88_O :=
  RlO_app (enc:=g88_E) (by intro a b h; simp [g88_E,Prod.ext_iff] at h ⊢; simp [h]) y0
/-! (*impl.Pager).isData -/
def g43_tf:TFn:=⟨(.seq (.ops [oo 6 (.mv (kb false))]) (.trim [0,1,2] (.seq (.after (.ops [mo 7 1,mo 8 0,ca 9 121 [.t 8],bn 10 .gtr (.t 7) (.t 9),mo 11 10,⟨(some 12),(some (11,true)),(.mv (.t 2))⟩,⟨(some 13),(some (11,true)),(.mv (.t 0))⟩,⟨(some 14),(some (11,true)),(.nilchk (.t 13))⟩,⟨(some 15),(some (11,true)),(.faddr 4 (.t 14))⟩,⟨(some 16),(some (11,true)),(.faddr 0 (.t 15))⟩,⟨(some 17),(some (11,true)),(.load none (.t 16))⟩,⟨(some 18),(some (11,true)),(.bin .num .leq (.t 12) (.t 17))⟩,pk 19 (.t 11) (.t 18) (kb false),mo 20 19,⟨(some 21),(some (20,true)),(.mv (.t 1))⟩,⟨(some 22),(some (20,true)),(.mv (.t 0))⟩,⟨(some 23),(some (20,true)),(.nilchk (.t 22))⟩,⟨(some 24),(some (20,true)),(.faddr 4 (.t 23))⟩,⟨(some 25),(some (20,true)),(.faddr 0 (.t 24))⟩,⟨(some 26),(some (20,true)),(.load none (.t 25))⟩,⟨(some 27),(some (20,true)),(.mv (.t 2))⟩,⟨(some 28),(some (20,true)),(.bin .num .sub (.t 26) (.t 27))⟩,⟨(some 29),(some (20,true)),(.bin .num .leq (.t 21) (.t 28))⟩,pk 30 (.t 20) (.t 29) (kb false),mo 6 30]) ⟨[(6,0)],[],0⟩) (.keep ⟨[(6,0)],[],0⟩ .ret)))),[.t 6]⟩
abbrev g43_S:=Sys.on [(121,g60_r)] []
def impl_Pager_isData (a_p:K1) (a_at:Int) (a_n:Int):Option (Bool):=(impl_Pager_area a_p).bind fun r1=>if a_at > r1 then if a_n ≤ a_p.2.1.1 then some ((decide (a_at ≤ (IntKind.i64.wrap (a_p.2.1.1 - a_n))))) else some false else some false
@[simp] def g43_O:Bool → TV × List Blk:=fun r=>((.bool r),[])
def g43_E (a:K1 × Int × Int × List TV):List TV:=[(.vp ((.vs (rows a.1.1.1))::(.vs (rows a.1.1.2.1))::(.int .i64 a.1.1.2.2.1)::(.bool a.1.1.2.2.2)::(.int .i64 a.1.2.1.1)::(.int .i64 a.1.2.1.2.1)::(.int .i64 a.1.2.1.2.2.1)::(.int .i64 a.1.2.1.2.2.2)::(.int .i64 a.1.2.2.1)::(.int .i64 a.1.2.2.2.1)::(.vs (rows a.1.2.2.2.2.1))::(.vs (rows a.1.2.2.2.2.2))::a.2.2.2)),(.int .i64 a.2.1),(.int .i64 a.2.2.1)]
theorem g43_run (a_p:K1) (a_at:Int) (a_n:Int) (q0:List TV):callFn (X g43_S) g43_tf (g43_E (a_p,a_at,a_n,q0)) [] = (impl_Pager_isData a_p a_at a_n).map g43_O:=by
  rw [callFn_eq]
  simp (maxSteps:=2000000) (maxDischargeDepth:=8) -implicitDefEqProofs [g43_tf,impl_Pager_isData,g43_E] <;> (try simp only [map_to_bind,g43_O])
def g43_r:Rule:=RlO g43_E (fun a=>impl_Pager_isData a.1 a.2.1 a.2.2.1) g43_O
theorem g43_ok:RuleOk Tryz.prog 110 g43_r:=ok_rlo (S:=g43_S) (tf:=g43_tf) (SysOk.on ⟨g60_ok,trivial⟩ trivial) (trE_ok (ks:=[]) Tryz.func110 (by kernel_rfl)) fun a=>g43_run a.1 a.2.1 a.2.2.1 a.2.2.2
@[simp] theorem g43_app (y0 y1 y2 y3 y4 y5 y6 y7 y8 y9 y10 y11 y12 y13)(q0:List TV):g43_r [(.vp ((.vs (rows y0))::(.vs (rows y1))::(.int .i64 y2)::(.bool y3)::(.int .i64 y4)::(.int .i64 y5)::(.int .i64 y6)::(.int .i64 y7)::(.int .i64 y8)::(.int .i64 y9)::(.vs (rows y10))::(.vs (rows y11))::q0)),(.int .i64 y12),(.int .i64 y13)] = (impl_Pager_isData (((y0,y1,y2,y3),(y4,y5,y6,y7),y8,y9,y10,y11)) y12 y13).map g43_O :=
  RlO_app (enc:=g43_E) (by intro a b h; simp [g43_E,Prod.ext_iff] at h ⊢; simp [h]) (((y0,y1,y2,y3),(y4,y5,y6,y7),y8,y9,y10,y11),y12,y13,q0)
end
end Go.Proofs.TM
