/- Functions of the program, as functions of their data: written by program. -/
import Derived.Test.YtcibapigoeknmaaGreatDoorCK2
namespace Go.Proofs.TM
open Go Go.Proofs
set_option linter.unusedVariables false
set_option linter.unusedSimpArgs false
set_option maxHeartbeats 1000000
attribute [-simp] Option.map_bind strV_some
attribute [simp] guardOn_bool sA_bslice Function.comp_def
noncomputable section
/-! impl.inTurn -/
def g56_tf:TFn:=⟨(sq [mk 2 (ki 0)] [0] (.seq (sq [mo 6 0,le 7 6,mk 8 (ki 0)] [6,7,8] (.block 0 (.turn [6,7,8] (sq [bn 9 .lss (.t 8) (.t 7)] [6,7,8,9] (.seq (.cond (.t 9) .skip (.exit 0)) (.trim [6,7,8] (.seq (.block 1 (sq [ia 10 1 6 8,ld 11 10,mo 4 11] [4,6,7,8] (sq [mo 12 4,oo 13 (.callvM (.t 12) 0 [1,4,5,6,7] []),mo 5 13] [5,6,7,8] (sq [mo 14 5,bn 15 .neq (.t 14) (ki 0)] [5,6,7,8,15] (.cond (.t 15) (.seq (.ops [mo 16 5,mo 2 16]) (.keep (kp [(2,0)] [(0,0),(1,2),(2,0),(3,0),(8,1),(9,1),(10,1),(11,1)] 4) .ret)) .skip))))) (.trim [6,7,8] (.ops [bn 17 .add (.t 8) (ki 1),mo 8 17])))))) (.turn [6,7,8] (sq [bn 9 .lss (.t 8) (.t 7)] [6,7,8,9] (.seq (.cond (.t 9) .skip (.exit 0)) (.trim [6,7,8] (.seq (.block 1 (sq [ia 10 1 6 8,ld 11 10,mo 4 11] [4,6,7,8] (sq [mo 12 4,oo 13 (.callvM (.t 12) 0 [2,1,8,9,10,11] []),mo 5 13] [5,6,7,8] (sq [mo 14 5,bn 15 .neq (.t 14) (ki 0)] [5,6,7,8,15] (.cond (.t 15) (.seq (.ops [mo 16 5,mo 2 16]) (.keep (kp [(2,0)] [(0,0),(1,2),(2,0),(3,0),(12,1),(13,1),(14,1),(15,1)] 4) .ret)) .skip))))) (.trim [6,7,8] (.ops [bn 17 .add (.t 8) (ki 1),mo 8 17])))))) (.turn [6,7,8] (sq [bn 9 .lss (.t 8) (.t 7)] [6,7,8,9] (.seq (.cond (.t 9) .skip (.exit 0)) (.trim [6,7,8] (.seq (.block 1 (sq [ia 10 1 6 8,ld 11 10,mo 4 11] [4,6,7,8] (sq [mo 12 4,oo 13 (.callvM (.t 12) 0 [1,12,13,14,15] []),mo 5 13] [5,6,7,8] (sq [mo 14 5,bn 15 .neq (.t 14) (ki 0)] [5,6,7,8,15] (.cond (.t 15) (.seq (.ops [mo 16 5,mo 2 16]) (.keep (kp [(2,0)] [(0,0),(1,2),(2,0),(3,0),(16,1),(17,1),(18,1),(19,1)] 4) .ret)) .skip))))) (.trim [6,7,8] (.ops [bn 17 .add (.t 8) (ki 1),mo 8 17])))))) (.turn [6,7,8] (sq [bn 9 .lss (.t 8) (.t 7)] [6,7,8,9] (.seq (.cond (.t 9) .skip (.exit 0)) (.trim [6,7,8] (.seq (.block 1 (sq [ia 10 1 6 8,ld 11 10,mo 4 11] [4,6,7,8] (sq [mo 12 4,oo 13 (.callvM (.t 12) 0 [2,1,3,16,17,18,19] []),mo 5 13] [5,6,7,8] (sq [mo 14 5,bn 15 .neq (.t 14) (ki 0)] [5,6,7,8,15] (.cond (.t 15) (.seq (.ops [mo 16 5,mo 2 16]) (.keep (kp [(2,0)] [(0,0),(1,2),(2,0),(3,0),(20,1),(21,1),(22,1),(23,1)] 4) .ret)) .skip))))) (.trim [6,7,8] (.ops [bn 17 .add (.t 8) (ki 1),mo 8 17])))))) (.turn [6,7,8] (sq [bn 9 .lss (.t 8) (.t 7)] [6,7,8,9] (.seq (.cond (.t 9) .skip (.exit 0)) (.trim [6,7,8] (.seq (.block 1 (sq [ia 10 1 6 8,ld 11 10,mo 4 11] [4,6,7,8] (sq [mo 12 4,oo 13 (.callvM (.t 12) 0 [1,20,21,22,23] []),mo 5 13] [5,6,7,8] (sq [mo 14 5,bn 15 .neq (.t 14) (ki 0)] [5,6,7,8,15] (.cond (.t 15) (.seq (.ops [mo 16 5,mo 2 16]) (.keep (kp [(2,0)] [(0,0),(1,2),(2,0),(3,0),(24,1),(25,1),(26,1),(27,1)] 4) .ret)) .skip))))) (.trim [6,7,8] (.ops [bn 17 .add (.t 8) (ki 1),mo 8 17])))))) (.turn [6,7,8] (sq [bn 9 .lss (.t 8) (.t 7)] [6,7,8,9] (.seq (.cond (.t 9) .skip (.exit 0)) (.trim [6,7,8] (.seq (.block 1 (sq [ia 10 1 6 8,ld 11 10,mo 4 11] [4,6,7,8] (sq [mo 12 4,oo 13 (.callvM (.t 12) 0 [1,24,25,26,27] []),mo 5 13] [5,6,7,8] (sq [mo 14 5,bn 15 .neq (.t 14) (ki 0)] [5,6,7,8,15] (.cond (.t 15) (.seq (.ops [mo 16 5,mo 2 16]) (.keep (kp [(2,0)] [(0,0),(1,2),(2,0),(3,0),(28,1),(29,1),(30,1),(31,1)] 4) .ret)) .skip))))) (.trim [6,7,8] (.ops [bn 17 .add (.t 8) (ki 1),mo 8 17])))))) (.turn [6,7,8] (sq [bn 9 .lss (.t 8) (.t 7)] [6,7,8,9] (.seq (.cond (.t 9) .skip (.exit 0)) (.trim [6,7,8] (.seq (.block 1 (sq [ia 10 1 6 8,ld 11 10,mo 4 11] [4,6,7,8] (sq [mo 12 4,oo 13 (.callvM (.t 12) 0 [1,28,29,30,31] []),mo 5 13] [5,6,7,8] (sq [mo 14 5,bn 15 .neq (.t 14) (ki 0)] [5,6,7,8,15] (.cond (.t 15) (.seq (.ops [mo 16 5,mo 2 16]) (.keep (kp [(2,0)] [(0,0),(1,2),(2,0),(3,0),(32,1),(33,1),(34,1),(35,1)] 4) .ret)) .skip))))) (.trim [6,7,8] (.ops [bn 17 .add (.t 8) (ki 1),mo 8 17])))))) (.turn [6,7,8] (sq [bn 9 .lss (.t 8) (.t 7)] [6,7,8,9] (.seq (.cond (.t 9) .skip (.exit 0)) (.trim [6,7,8] (.seq (.block 1 (sq [ia 10 1 6 8,ld 11 10,mo 4 11] [4,6,7,8] (sq [mo 12 4,oo 13 (.callv (.t 12) []),mo 5 13] [5,6,7,8] (sq [mo 14 5,bn 15 .neq (.t 14) (ki 0)] [5,6,7,8,15] (.cond (.t 15) (.seq (.ops [mo 16 5,mo 2 16]) .ret) .skip))))) (.trim [6,7,8] (.ops [bn 17 .add (.t 8) (ki 1),mo 8 17])))))) .bad)))))))))) (.trim [] (.seq (.ops [mk 2 (ki 0)]) (.keep (kp [(2,0)] [(0,0),(1,2),(2,0),(3,0),(32,1),(33,1),(34,1),(35,1)] 4) .ret))))),[.t 2]⟩
abbrev g56_S:=Sys.on [] [((54,0),(1,g17_r)),((55,0),(2,g9_r)),((57,0),(3,g10_r)),((59,0),(1,g14_r))]
def impl_inTurn_of8 (a1:K1) (a2:Int × Int × Int × Int):Option (K1 × (Int × Int × Int × Int) × Int):=(impl_Disk_barrier_o19 a1).bind fun r1=>if ¬(r1.2 = 0) then some (r1.1,a2,r1.2) else (impl_Pager_checkpoint_c1_o60 r1.1).bind fun r2=>if ¬(r2.2 = 0) then some (r2.1,a2,r2.2) else (impl_Disk_barrier_o19 r2.1).bind fun r3=>if ¬(r3.2 = 0) then some (r3.1,a2,r3.2) else (impl_Pager_checkpoint_c2_o0d r3.1 a2).bind fun r4=>if ¬(r4.2.2 = 0) then some (r4.1,r4.2.1,r4.2.2) else (impl_Disk_barrier_o19 r4.1).bind fun r5=>if ¬(r5.2 = 0) then some (r5.1,r4.2.1,r5.2) else (impl_Pager_clearLog_o19 r5.1).bind fun r6=>if ¬(r6.2 = 0) then some (r6.1,r4.2.1,r6.2) else (impl_Disk_barrier_o19 r6.1).bind fun r7=>if ¬(r7.2 = 0) then some (r7.1,r4.2.1,r7.2) else some (r7.1,r4.2.1,0)
@[simp] def g56_O:(K1 × (Int × Int × Int × Int) × Int) → TV × List Blk:=fun r=>((.int .i64 r.2.2),[(.live 1 [[(.fn 54 [(.ptr 1 0 0)] [])],[(.fn 55 [] [(.ptr 2 0 0)])],[(.fn 54 [(.ptr 1 0 0)] [])],[(.fn 57 [] [(.ptr 2 0 0),(.ptr 3 0 0)])],[(.fn 54 [(.ptr 1 0 0)] [])],[(.fn 59 [(.ptr 1 0 0)] [])],[(.fn 54 [(.ptr 1 0 0)] [])]]),(.live 12 [[(ow 4 r.1.1.1.length),(ow 5 r.1.1.2.1.length),(.int .i64 r.1.1.2.2.1),(.bool r.1.1.2.2.2),(.int .i64 r.1.2.1.1),(.int .i64 r.1.2.1.2.1),(.int .i64 r.1.2.1.2.2.1),(.int .i64 r.1.2.1.2.2.2),(.int .i64 r.1.2.2.1),(.int .i64 r.1.2.2.2.1),(ow 6 r.1.2.2.2.2.1.length),(ow 7 r.1.2.2.2.2.2.length)]]),(.live 1 [[(.ptr 1 0 0)]]),(.live 4 [[(.int .i64 r.2.1.1),(.int .i64 r.2.1.2.1),(.int .i64 r.2.1.2.2.1),(.int .i64 r.2.1.2.2.2)]]),(ob 1 r.1.1.1),(ob 2 r.1.1.2.1),(ob 2 r.1.2.2.2.2.1),(ob 2 r.1.2.2.2.2.2)])
abbrev g56_T:=K1 × (Int × Int × Int × Int)
def g56_E (a:g56_T):List TV:=[(.hs 0 0 7 true)]
def g56_B (a:g56_T):List Blk:=[(.live 1 [[(.fn 54 [(.ptr 1 0 0)] [])],[(.fn 55 [] [(.ptr 2 0 0)])],[(.fn 54 [(.ptr 1 0 0)] [])],[(.fn 57 [] [(.ptr 2 0 0),(.ptr 3 0 0)])],[(.fn 54 [(.ptr 1 0 0)] [])],[(.fn 59 [(.ptr 1 0 0)] [])],[(.fn 54 [(.ptr 1 0 0)] [])]]),(.live 12 [[(ow 4 a.1.1.1.length),(ow 5 a.1.1.2.1.length),(.int .i64 a.1.1.2.2.1),(.bool a.1.1.2.2.2),(.int .i64 a.1.2.1.1),(.int .i64 a.1.2.1.2.1),(.int .i64 a.1.2.1.2.2.1),(.int .i64 a.1.2.1.2.2.2),(.int .i64 a.1.2.2.1),(.int .i64 a.1.2.2.2.1),(ow 6 a.1.2.2.2.2.1.length),(ow 7 a.1.2.2.2.2.2.length)]]),(.live 1 [[(.ptr 1 0 0)]]),(.live 4 [[(.int .i64 a.2.1),(.int .i64 a.2.2.1),(.int .i64 a.2.2.2.1),(.int .i64 a.2.2.2.2)]]),(ob 1 a.1.1.1),(ob 2 a.1.1.2.1),(ob 2 a.1.2.2.2.2.1),(ob 2 a.1.2.2.2.2.2)]
theorem g56_run (a1:K1) (a2:Int × Int × Int × Int) :callFn (X g56_S) g56_tf (g56_E (a1,a2)) (g56_B (a1,a2)) = (impl_inTurn_of8 a1 a2).map g56_O:=by
  rw [callFn_eq]
  simp (maxSteps:=2000000) (maxDischargeDepth:=8) -implicitDefEqProofs [g56_tf,impl_inTurn_of8,g56_E,g56_B,wrapC1,wrapC2,wrapC3,wrapC4,wrapC5,wrapC6,wrapC7] <;> (try simp only [map_to_bind,some_elim,g56_O])
def g56_r:MRule:=RmO g56_E g56_B (fun a=>impl_inTurn_of8 a.1 a.2) g56_O
theorem g56_ok:MRuleOk Tryz.prog 53 4 g56_r:=ok_rmo (S:=g56_S) (tf:=g56_tf) (SysOk.on trivial ⟨g17_ok,g9_ok,g10_ok,g14_ok,trivial⟩) (trE_ok (ks:=[[2000001,8,6,7,8]]) Tryz.func53 (by kernel_rfl)) (by rfl) (fun _=>by simp [g56_B]) (fun _=>by simp) fun a=>g56_run a.1 a.2
@[simp] theorem g56_app (y0:List Str)(y1:List (Int × Str))(y2 y3 y4 y5 y6 y7 y8 y9)(y10:List (Int × Str))(y11:List (Int × Str))(y12 y13 y14 y15){n1:Nat}(h1:n1 = y0.length){n2:Nat}(h2:n2 = y1.length){n3:Nat}(h3:n3 = y10.length){n4:Nat}(h4:n4 = y11.length):g56_r [(.hs 0 0 7 true)] [(.live 1 [[(.fn 54 [(.ptr 1 0 0)] [])],[(.fn 55 [] [(.ptr 2 0 0)])],[(.fn 54 [(.ptr 1 0 0)] [])],[(.fn 57 [] [(.ptr 2 0 0),(.ptr 3 0 0)])],[(.fn 54 [(.ptr 1 0 0)] [])],[(.fn 59 [(.ptr 1 0 0)] [])],[(.fn 54 [(.ptr 1 0 0)] [])]]),(.live 12 [[(ow 4 n1),(ow 5 n2),(.int .i64 y2),(.bool y3),(.int .i64 y4),(.int .i64 y5),(.int .i64 y6),(.int .i64 y7),(.int .i64 y8),(.int .i64 y9),(ow 6 n3),(ow 7 n4)]]),(.live 1 [[(.ptr 1 0 0)]]),(.live 4 [[(.int .i64 y12),(.int .i64 y13),(.int .i64 y14),(.int .i64 y15)]]),(ob 1 y0),(ob 2 y1),(ob 2 y10),(ob 2 y11)] = (impl_inTurn_of8 (((y0,y1,y2,y3),(y4,y5,y6,y7),y8,y9,y10,y11)) ((y12,y13,y14,y15))).map g56_O:=by
  subst h1 h2 h3 h4
  exact RmO_app (enc:=g56_E) (encB:=g56_B) (by intro a b h h2; simp [g56_E,g56_B,Prod.ext_iff] at h h2 ⊢; simp [h,h2]) (((y0,y1,y2,y3),(y4,y5,y6,y7),y8,y9,y10,y11),(y12,y13,y14,y15))
/-! (*impl.Pager).checkpoint -/
def g12_tf:TFn:=⟨(sq [bx 1 0,mk 2 (ki 0)] [1] (.seq (sq [ld 5 1,nk 6 5,fa 7 4 6,fa 8 3 7,ld 9 8,bn 10 .eql (.t 9) (ki 1000000000000)] [1,10] (.cond (.t 10) (.seq (.ops [mk 2 (ki 5)]) (.keep (kp [(2,0)] [(0,2),(1,1),(2,1),(3,1),(4,1)] 1) .ret)) .skip)) (.trim [1] (sq [ld 11 1,nk 12 11,fa 13 4 12,ln 14 4 13,oo 3 (.alloc [(.int .i64 0),(.int .i64 0),(.int .i64 0),(.int .i64 0)]),⟨none,none,(.store 4 (.t 3) (.t 14))⟩] [1,3] (sq [ld 15 1,nk 16 15,fa 17 8 16,ld 18 17,fa 19 2 3,⟨none,none,(.store 1 (.t 19) (.t 18))⟩] [1,3] (sq [fa 20 3 3,ld 21 20,bn 22 .add (.t 21) (ki 1),fa 23 3 3,⟨none,none,(.store 1 (.t 23) (.t 22))⟩] [1,3] (.seq (.draw [([],ld 24 1),([0],nk 25 24),([0,1],fa 26 0 25),([0,1,2],oo 27 (.mkfn 54 [.t 26] [])),([],oo 28 (.mkfn 55 [] [.t 1])),([],ld 29 1),([5],nk 30 29),([5,6],fa 31 0 30),([5,6,7],oo 32 (.mkfn 54 [.t 31] [])),([],oo 33 (.mkfn 57 [] [.t 1,.t 3])),([],ld 34 1),([10],nk 35 34),([10,11],fa 36 0 35),([10,11,12],oo 37 (.mkfn 54 [.t 36] [])),([],ld 38 1),([14],oo 39 (.mkfn 59 [.t 38] [])),([],ld 40 1),([16],nk 41 40),([16,17],fa 42 0 41),([16,17,18],oo 43 (.mkfn 54 [.t 42] []))] [oo 44 (.bslice [.nilf] 7 [(0,(.t 27)),(1,(.t 28)),(2,(.t 32)),(3,(.t 33)),(4,(.t 37)),(5,(.t 39)),(6,(.t 43))]),oo 45 (.callM 53 2 [7,0,5,6,1,2,3,4] [.t 44]),mo 4 45]) (.trim [1,3,4] (.seq (sq [mo 46 4,bn 47 .neq (.t 46) (ki 0)] [1,3,4,47] (.cond (.t 47) (.seq (.ops [mo 48 4,mo 2 48]) (.keep (kp [(2,0)] [(0,2),(8,1),(9,1),(10,1),(11,1)] 1) .ret)) .skip)) (.trim [1,3] (sq [ld 49 1,ln 50 4 3,nk 51 49,fa 52 4 51,⟨none,none,(.store 4 (.t 52) (.t 50))⟩] [1] (sq [ld 53 1,nk 54 53,fa 55 9 54,⟨none,none,(.store 1 (.t 55) (ki 0))⟩] [1] (sq [ld 56 1,nk 57 56,fa 58 10 57,⟨none,none,(.store 1 (.t 58) (.c .nils))⟩] [] (.seq (.ops [mk 2 (ki 0)]) (.keep (kp [(2,0)] [(0,2),(8,1),(9,1),(1000,1),(11,1)] 1) .ret))))))))))))))),[.t 2]⟩
abbrev g12_S:=Sys.on [] [((53,2),(4,g56_r))]
def impl_Pager_checkpoint_o19 (a1:K1):Option (K1 × Int):=if a1.2.1.2.2.2 = 1000000000000 then some (a1,5) else (impl_inTurn_of8 a1 ((a1.2.1.1,a1.2.1.2.1,a1.2.2.1,(IntKind.i64.wrap (a1.2.1.2.2.2 + 1))))).bind fun r1=>if ¬(r1.2.2 = 0) then some (r1.1,r1.2.2) else some ((r1.1.1,r1.2.1,r1.1.2.2.1,0,([]:List (Int × Str)),r1.1.2.2.2.2.2),0)
@[simp] def g12_O:(K1 × Int) → TV × List Blk:=fun r=>((.int .i64 r.2),[(.live 12 [[(ow 1 r.1.1.1.length),(ow 2 r.1.1.2.1.length),(.int .i64 r.1.1.2.2.1),(.bool r.1.1.2.2.2),(.int .i64 r.1.2.1.1),(.int .i64 r.1.2.1.2.1),(.int .i64 r.1.2.1.2.2.1),(.int .i64 r.1.2.1.2.2.2),(.int .i64 r.1.2.2.1),(.int .i64 r.1.2.2.2.1),(ow 3 r.1.2.2.2.2.1.length),(ow 4 r.1.2.2.2.2.2.length)]]),(ob 1 r.1.1.1),(ob 2 r.1.1.2.1),(ob 2 r.1.2.2.2.2.1),(ob 2 r.1.2.2.2.2.2)])
abbrev g12_T:=K1
def g12_E (a:g12_T):List TV:=[(.ptr 0 0 0)]
def g12_B (a:g12_T):List Blk:=[(.live 12 [[(ow 1 a.1.1.length),(ow 2 a.1.2.1.length),(.int .i64 a.1.2.2.1),(.bool a.1.2.2.2),(.int .i64 a.2.1.1),(.int .i64 a.2.1.2.1),(.int .i64 a.2.1.2.2.1),(.int .i64 a.2.1.2.2.2),(.int .i64 a.2.2.1),(.int .i64 a.2.2.2.1),(ow 3 a.2.2.2.2.1.length),(ow 4 a.2.2.2.2.2.length)]]),(ob 1 a.1.1),(ob 2 a.1.2.1),(ob 2 a.2.2.2.2.1),(ob 2 a.2.2.2.2.2)]
theorem g12_run (a1:K1) :callFn (X g12_S) g12_tf (g12_E a1) (g12_B a1) = (impl_Pager_checkpoint_o19 a1).map g12_O:=by
  rw [callFn_eq]
  simp (maxSteps:=2000000) (maxDischargeDepth:=8) -implicitDefEqProofs [g12_tf,impl_Pager_checkpoint_o19,g12_E,g12_B] <;> (try simp only [map_to_bind,some_elim,g12_O])
def g12_r:MRule:=RmO g12_E g12_B (fun a=>impl_Pager_checkpoint_o19 a) g12_O
theorem g12_ok:MRuleOk Tryz.prog 22 1 g12_r:=ok_rmo (S:=g12_S) (tf:=g12_tf) (SysOk.on trivial ⟨g56_ok,trivial⟩) (trE_ok (ks:=[[20]]) Tryz.func22 (by kernel_rfl)) (by rfl) (fun _=>by simp [g12_B]) (fun _=>by simp) fun a=>g12_run a
@[simp] theorem g12_app (y0:List Str)(y1:List (Int × Str))(y2 y3 y4 y5 y6 y7 y8 y9)(y10:List (Int × Str))(y11:List (Int × Str)){n1:Nat}(h1:n1 = y0.length){n2:Nat}(h2:n2 = y1.length){n3:Nat}(h3:n3 = y10.length){n4:Nat}(h4:n4 = y11.length):g12_r [(.ptr 0 0 0)] [(.live 12 [[(ow 1 n1),(ow 2 n2),(.int .i64 y2),(.bool y3),(.int .i64 y4),(.int .i64 y5),(.int .i64 y6),(.int .i64 y7),(.int .i64 y8),(.int .i64 y9),(ow 3 n3),(ow 4 n4)]]),(ob 1 y0),(ob 2 y1),(ob 2 y10),(ob 2 y11)] = (impl_Pager_checkpoint_o19 (((y0,y1,y2,y3),(y4,y5,y6,y7),y8,y9,y10,y11))).map g12_O:=by
  subst h1 h2 h3 h4
  exact RmO_app (enc:=g12_E) (encB:=g12_B) (by intro a b h h2; simp [g12_E,g12_B,Prod.ext_iff] at h h2 ⊢; simp [h,h2]) (((y0,y1,y2,y3),(y4,y5,y6,y7),y8,y9,y10,y11))
/-! (impl.Pager).onDisk -/
def g6_tf:TFn:=⟨(sq [bx 2 0,oo 4 (.alloc [.nils,.nils,(.int .i64 0),(.bool false),(.int .i64 0),(.int .i64 0),(.int .i64 0),(.int .i64 0),(.int .i64 0),(.int .i64 0),.nils,.nils]),mk 5 (ki 0)] [1,2,4] (sq [ln 9 12 2,ca 10 52 [.t 9],oo 6 (.alloc [.nils,.nils,(.int .i64 0),(.bool false),(.int .i64 0),(.int .i64 0),(.int .i64 0),(.int .i64 0),(.int .i64 0),(.int .i64 0),.nils,.nils]),⟨none,none,(.store 12 (.t 6) (.t 10))⟩] [1,2,4,6] (sq [mo 11 1,oo 12 (.callvM (.t 11) 0 [7,3,4,5,6] [.t 6]),mo 7 12] [2,4,6,7] (.seq (sq [mo 13 7] [2,4,6,7,13] (.block 0 (sq [bn 15 .eql (.t 13) (ki 0),mo 14 15] [2,4,6,7,13,14] (.cond (.t 14) (.seq (.ops [ln 16 12 6,⟨none,none,(.store 12 (.t 4) (.t 16))⟩,mk 5 (ki 0)]) (.keep (kp [(4,0),(5,0)] [(1,2),(8,1),(9,1),(10,1),(11,1)] 0) .ret)) (sq [bn 18 .eql (.t 13) (ki 13),mo 17 18] [2,4,6,7,17] (.cond (.t 17) (sq [ln 19 12 2,ca 20 52 [.t 19],oo 8 (.alloc [.nils,.nils,(.int .i64 0),(.bool false),(.int .i64 0),(.int .i64 0),(.int .i64 0),(.int .i64 0),(.int .i64 0),(.int .i64 0),.nils,.nils]),⟨none,none,(.store 12 (.t 8) (.t 20))⟩] [4,6,8] (sq [fa 21 0 6,ln 22 4 21,fa 23 0 8,⟨none,none,(.store 4 (.t 23) (.t 22))⟩] [4,8] (.seq (.ops [ln 24 12 8,⟨none,none,(.store 12 (.t 4) (.t 24))⟩,mk 5 (ki 13)]) (.keep (kp [(4,0),(5,0)] [(1,2),(8,1),(9,1),(15,1),(16,1)] 0) .ret)))) .skip)))))) (.trim [4,7] (.seq (.ops [oo 25 (.build [.nils,.nils,(.int .i64 0),(.bool false),(.int .i64 0),(.int .i64 0),(.int .i64 0),(.int .i64 0),(.int .i64 0),(.int .i64 0),.nils,.nils] []),mo 26 7,⟨none,none,(.store 12 (.t 4) (.t 25))⟩,mo 5 26]) (.keep (kp [(4,0),(5,0)] [(1,2),(1000,1),(1001,1),(1002,1),(1003,1)] 0) .ret))))))),[.cell 4 (some 12),.t 5]⟩
abbrev g6_S:=Sys.on [(52,g47_r)] [((22,0),(1,g12_r))]
def impl_Pager_onDisk_Pager_checkpoint (a_p:K1):Option (K1 × Int):=(impl_Pager_clone a_p).bind fun r1=>(impl_Pager_checkpoint_o19 r1).bind fun r2=>if r2.2 = 0 then some (r2.1,0) else if r2.2 = 13 then (impl_Pager_clone a_p).bind fun r3=>some ((r2.1.1,r3.2.1,r3.2.2.1,r3.2.2.2.1,r3.2.2.2.2.1,r3.2.2.2.2.2),13) else some (((([]:List Str),([]:List (Int × Str)),0,false),(0,0,0,0),0,0,([]:List (Int × Str)),([]:List (Int × Str))),r2.2)
@[simp] def g6_O:(K1 × Int) → TV × List Blk:=fun r=>((.tup [(.agg [(ow 1 r.1.1.1.length),(ow 2 r.1.1.2.1.length),(.int .i64 r.1.1.2.2.1),(.bool r.1.1.2.2.2),(.int .i64 r.1.2.1.1),(.int .i64 r.1.2.1.2.1),(.int .i64 r.1.2.1.2.2.1),(.int .i64 r.1.2.1.2.2.2),(.int .i64 r.1.2.2.1),(.int .i64 r.1.2.2.2.1),(ow 3 r.1.2.2.2.2.1.length),(ow 4 r.1.2.2.2.2.2.length)]),(.int .i64 r.2)]),[(.live 12 [[(ow 1 r.1.1.1.length),(ow 2 r.1.1.2.1.length),(.int .i64 r.1.1.2.2.1),(.bool r.1.1.2.2.2),(.int .i64 r.1.2.1.1),(.int .i64 r.1.2.1.2.1),(.int .i64 r.1.2.1.2.2.1),(.int .i64 r.1.2.1.2.2.2),(.int .i64 r.1.2.2.1),(.int .i64 r.1.2.2.2.1),(ow 3 r.1.2.2.2.2.1.length),(ow 4 r.1.2.2.2.2.2.length)]]),(ob 1 r.1.1.1),(ob 2 r.1.1.2.1),(ob 2 r.1.2.2.2.2.1),(ob 2 r.1.2.2.2.2.2)])
def g6_E (a:K1):List TV:=[(.agg [(.vs (rows a.1.1)),(.vs (rows a.1.2.1)),(.int .i64 a.1.2.2.1),(.bool a.1.2.2.2),(.int .i64 a.2.1.1),(.int .i64 a.2.1.2.1),(.int .i64 a.2.1.2.2.1),(.int .i64 a.2.1.2.2.2),(.int .i64 a.2.2.1),(.int .i64 a.2.2.2.1),(.vs (rows a.2.2.2.2.1)),(.vs (rows a.2.2.2.2.2))]),(.fn 22 [] [])]
theorem g6_run (a_p:K1) :callFn (X g6_S) g6_tf (g6_E a_p) [] = (impl_Pager_onDisk_Pager_checkpoint a_p).map g6_O:=by
  rw [callFn_eq]
  simp (maxSteps:=2000000) (maxDischargeDepth:=8) -implicitDefEqProofs [g6_tf,impl_Pager_onDisk_Pager_checkpoint,g6_E] <;> (try simp only [map_to_bind,some_elim,g6_O])
def g6_r:Rule:=RlO g6_E (fun a=>impl_Pager_onDisk_Pager_checkpoint a) g6_O
theorem g6_ok:RuleOk Tryz.prog 21 g6_r:=ok_rlo (S:=g6_S) (tf:=g6_tf) (SysOk.on ⟨g47_ok,trivial⟩ ⟨g12_ok,trivial⟩) (trE_ok (ks:=[]) Tryz.func21 (by kernel_rfl)) fun a=>g6_run a
@[simp] theorem g6_app (y0 y1 y2 y3 y4 y5 y6 y7 y8 y9 y10 y11):g6_r [(.agg [(.vs (rows y0)),(.vs (rows y1)),(.int .i64 y2),(.bool y3),(.int .i64 y4),(.int .i64 y5),(.int .i64 y6),(.int .i64 y7),(.int .i64 y8),(.int .i64 y9),(.vs (rows y10)),(.vs (rows y11))]),(.fn 22 [] [])] = (impl_Pager_onDisk_Pager_checkpoint (((y0,y1,y2,y3),(y4,y5,y6,y7),y8,y9,y10,y11))).map g6_O :=
  RlO_app (enc:=g6_E) (by intro a b h; simp [g6_E,Prod.ext_iff] at h ⊢; simp [h]) (((y0,y1,y2,y3),(y4,y5,y6,y7),y8,y9,y10,y11))
/-! impl.Checkpoint -/
def g57_tf:TFn:=⟨(sq [bx 1 0,oo 2 (.alloc [.nils,.nils,(.int .i64 0),(.bool false),(.int .i64 0),(.int .i64 0),(.int .i64 0),(.int .i64 0),(.int .i64 0),(.int .i64 0),.nils,.nils]),mk 3 (ki 0)] [1,2] (.seq (sq [ln 4 12 1,ca 5 20 [.t 4],nt 6 5] [1,2,6] (.cond (.t 6) (.seq (.ops [oo 7 (.build [.nils,.nils,(.int .i64 0),(.bool false),(.int .i64 0),(.int .i64 0),(.int .i64 0),(.int .i64 0),(.int .i64 0),(.int .i64 0),.nils,.nils] []),⟨none,none,(.store 12 (.t 2) (.t 7))⟩,mk 3 (ki 1)]) (.keep (kp [(2,0),(3,0)] [(1,2),(1000,1),(1001,1),(1002,1),(1003,1)] 0) .ret)) .skip)) (.trim [1,2] (.seq (.ops [ln 8 12 1,oo 9 (.call 21 [.t 8,(.c (.fn 22 [] []))]),oo 10 (.ext (.t 9) 0),oo 11 (.ext (.t 9) 1),⟨none,none,(.store 12 (.t 2) (.t 10))⟩,mo 3 11]) (.keep (kp [(2,0),(3,0)] [(1,2),(3,1),(4,1),(5,1),(6,1)] 0) .ret))))),[.cell 2 (some 12),.t 3]⟩
abbrev g57_S:=Sys.on [(20,g54_r),(21,g6_r)] []
def impl_Checkpoint (a_p:K1):Option (K1 × Int):=(impl_ValidPager a_p).bind fun r1=>if ¬(r1 = true) then some (((([]:List Str),([]:List (Int × Str)),0,false),(0,0,0,0),0,0,([]:List (Int × Str)),([]:List (Int × Str))),1) else (impl_Pager_onDisk_Pager_checkpoint a_p).bind fun r2=>some (r2.1,r2.2)
@[simp] def g57_O:(K1 × Int) → TV × List Blk:=fun r=>((.tup [(.agg [(ow 1 r.1.1.1.length),(ow 2 r.1.1.2.1.length),(.int .i64 r.1.1.2.2.1),(.bool r.1.1.2.2.2),(.int .i64 r.1.2.1.1),(.int .i64 r.1.2.1.2.1),(.int .i64 r.1.2.1.2.2.1),(.int .i64 r.1.2.1.2.2.2),(.int .i64 r.1.2.2.1),(.int .i64 r.1.2.2.2.1),(ow 3 r.1.2.2.2.2.1.length),(ow 4 r.1.2.2.2.2.2.length)]),(.int .i64 r.2)]),[(.live 12 [[(ow 1 r.1.1.1.length),(ow 2 r.1.1.2.1.length),(.int .i64 r.1.1.2.2.1),(.bool r.1.1.2.2.2),(.int .i64 r.1.2.1.1),(.int .i64 r.1.2.1.2.1),(.int .i64 r.1.2.1.2.2.1),(.int .i64 r.1.2.1.2.2.2),(.int .i64 r.1.2.2.1),(.int .i64 r.1.2.2.2.1),(ow 3 r.1.2.2.2.2.1.length),(ow 4 r.1.2.2.2.2.2.length)]]),(ob 1 r.1.1.1),(ob 2 r.1.1.2.1),(ob 2 r.1.2.2.2.2.1),(ob 2 r.1.2.2.2.2.2)])
def g57_E (a:K1):List TV:=[(.agg [(.vs (rows a.1.1)),(.vs (rows a.1.2.1)),(.int .i64 a.1.2.2.1),(.bool a.1.2.2.2),(.int .i64 a.2.1.1),(.int .i64 a.2.1.2.1),(.int .i64 a.2.1.2.2.1),(.int .i64 a.2.1.2.2.2),(.int .i64 a.2.2.1),(.int .i64 a.2.2.2.1),(.vs (rows a.2.2.2.2.1)),(.vs (rows a.2.2.2.2.2))])]
theorem g57_run (a_p:K1) :callFn (X g57_S) g57_tf (g57_E a_p) [] = (impl_Checkpoint a_p).map g57_O:=by
  rw [callFn_eq]
  simp (maxSteps:=2000000) (maxDischargeDepth:=8) -implicitDefEqProofs [g57_tf,impl_Checkpoint,g57_E] <;> (try simp only [map_to_bind,some_elim,g57_O])
def g57_r:Rule:=RlO g57_E (fun a=>impl_Checkpoint a) g57_O
theorem g57_ok:RuleOk Tryz.prog 7 g57_r:=ok_rlo (S:=g57_S) (tf:=g57_tf) (SysOk.on ⟨g54_ok,g6_ok,trivial⟩ trivial) (trE_ok (ks:=[]) Tryz.func7 (by kernel_rfl)) fun a=>g57_run a
@[simp] theorem g57_app (y0 y1 y2 y3 y4 y5 y6 y7 y8 y9 y10 y11):g57_r [(.agg [(.vs (rows y0)),(.vs (rows y1)),(.int .i64 y2),(.bool y3),(.int .i64 y4),(.int .i64 y5),(.int .i64 y6),(.int .i64 y7),(.int .i64 y8),(.int .i64 y9),(.vs (rows y10)),(.vs (rows y11))])] = (impl_Checkpoint (((y0,y1,y2,y3),(y4,y5,y6,y7),y8,y9,y10,y11))).map g57_O :=
  RlO_app (enc:=g57_E) (by intro a b h; simp [g57_E,Prod.ext_iff] at h ⊢; simp [h]) (((y0,y1,y2,y3),(y4,y5,y6,y7),y8,y9,y10,y11))
/-! laws.eqStringS -/
def g68l1_cb:TC:=(.seq (sq [mo 11 5,mo 12 0,le 13 12,bn 14 .lss (.t 11) (.t 13)] [0,1,5,14] (.cond (.t 14) .skip (.keep (kp [] [] 0) (.exit 0)))) (.trim [0,1,5] (.seq (.block 1 (.seq (.draw [([],mo 17 0),([],mo 18 5),([0,1],ia 19 1 17 18),([0,1,2],ld 20 19),([],mo 21 1),([],mo 22 5),([4,5],ia 23 1 21 22),([4,5,6],ld 24 23)] [oo 25 (.bin .str .neq (.t 20) (.t 24))]) (.trim [0,1,5,25] (.cond (.t 25) (.seq (.ops [mk 4 (kb false)]) (.keep (kp [(4,0)] [] 0) .ret)) .skip)))) (.trim [0,1,5] (.after (.ops [mo 15 5,bn 16 .add (.t 15) (ki 1),mo 5 16]) (kp [(0,0),(1,0),(5,0)] [] 0))))))
def g68l1_c:TC:=.loop [0,1,5] g68l1_cb
def g68_tf:TFn:=⟨(sq [mk 4 (kb false)] [0,1] (.seq (sq [mo 6 0,le 7 6,mo 8 1,le 9 8,bn 10 .neq (.t 7) (.t 9)] [0,1,10] (.cond (.t 10) (.seq (.ops [mk 4 (kb false)]) (.keep (kp [(4,0)] [] 0) .ret)) .skip)) (.trim [0,1] (.seq (sq [mk 5 (ki 0)] [0,1,5] (.block 0 (.keep (kp [(0,0),(1,0),(5,0)] [] 0) g68l1_c))) (.trim [] (.seq (.ops [mk 4 (kb true)]) (.keep (kp [(4,0)] [] 0) .ret))))))),[.t 4]⟩
abbrev g68_S:=Sys.on [] []
@[reducible,simp] def g68l1_F:((Unit) ⊕ (Bool)) → Out:=(Sum.elim (fun t=>(.ext 0,[],[])) (fun t=>(.ret,[(4,(.bool t))],[])))
def laws_eqStringS_l1_b (v1:List Str) (v2:List Str) (v3:Int):Option ((Int) ⊕ ((Unit) ⊕ (Bool))):=if v3 < (v1.length:Int) then if 0 ≤ v3 then (v1[(v3).toNat]?).bind fun x4=>if 0 ≤ v3 then (v2[(v3).toNat]?).bind fun x5=>if ¬(x4 = x5) then some (.inr (.inr false)) else some (.inl ((IntKind.i64.wrap (v3 + 1)))) else none else none else some (.inr (.inl ()))
theorem g68l1_b_eq  (v1:List Str) (v2:List Str) (v3:Int):X g68_S g68l1_cb (keepEnv [0,1,5] [(0,(.vs (rows v1))),(1,(.vs (rows v2))),(5,(.int .i64 v3))]) [] = (laws_eqStringS_l1_b v1 v2 v3).map (Sum.elim (fun s=>(TX.nrm,[(0,(.vs (rows v1))),(1,(.vs (rows v2))),(5,(.int .i64 s))],[])) g68l1_F):=by
  simp (maxSteps:=2000000) (maxDischargeDepth:=8) -implicitDefEqProofs [g68l1_cb,laws_eqStringS_l1_b] <;> (try simp only [map_to_bind,some_elim,g68l1_F])
def laws_eqStringS_l1 (v1:List Str) (v2:List Str) (s:Int):Option ((Unit) ⊕ (Bool)):=loopO (fun s=>laws_eqStringS_l1_b v1 v2 s) s
@[simp] theorem g68l1_eq (y0 y1 y2):X g68_S g68l1_c [(0,(.vs (rows y0))),(1,(.vs (rows y1))),(5,(.int .i64 y2))] [] = (laws_eqStringS_l1 y0 y1 y2).map g68l1_F:=by
  exact loop_X _ _ _ _ (by intro r; first | (simp; done) | (rcases r with r | r <;> simp; done) | (rcases r with r | r | r <;> simp; done) | (rcases r with r | r | r | r <;> simp)) (fun s=>g68l1_b_eq  y0 y1 s) y2
def laws_eqStringS (a_a:List Str) (a_b:List Str):Option (Bool):=if ¬((a_a.length:Int) = (a_b.length:Int)) then some false else (laws_eqStringS_l1 a_a a_b 0).bind fun r6=>Sum.elim (fun u7=>some true) (fun u8=>some u8) r6
@[simp] def g68_O:Bool → TV × List Blk:=fun r=>((.bool r),[])
def g68_E (a:List Str × List Str):List TV:=[(.vs (rows a.1)),(.vs (rows a.2))]
theorem g68_run (a_a:List Str) (a_b:List Str) :callFn (X g68_S) g68_tf (g68_E (a_a,a_b)) [] = (laws_eqStringS a_a a_b).map g68_O:=by
  rw [callFn_eq]
  simp (maxSteps:=2000000) (maxDischargeDepth:=8) -implicitDefEqProofs [g68_tf,laws_eqStringS,g68_E] <;> (try simp only [map_to_bind,some_elim,g68_O])
def g68_r:Rule:=RlO g68_E (fun a=>laws_eqStringS a.1 a.2) g68_O
theorem g68_ok:RuleOk Tryz.prog 60 g68_r:=ok_rlo (S:=g68_S) (tf:=g68_tf) (SysOk.on trivial trivial) (trE_ok (ks:=[[0,1,5],[8]]) Tryz.func60 (by kernel_rfl)) fun a=>g68_run a.1 a.2
@[simp] theorem g68_app (y0 y1):g68_r [(.vs (rows y0)),(.vs (rows y1))] = (laws_eqStringS y0 y1).map g68_O :=
  RlO_app (enc:=g68_E) (by intro a b h; simp [g68_E,Prod.ext_iff] at h ⊢; simp [h]) (y0,y1)
/-! laws.eqPut -/
def g114_tf:TFn:=⟨(sq [bx 2 0,bx 3 1,mk 4 (kb false)] [2,3] (.seq (sq [fa 5 0 2,ld 6 5,fa 7 0 3,ld 8 7,bn 9 .neq (.t 6) (.t 8)] [2,3,9] (.cond (.t 9) (.seq (.ops [mk 4 (kb false)]) (.keep (kp [(4,0)] [] 0) .ret)) .skip)) (.trim [2,3] (.seq (sq [fa 10 1 2,ld 11 10,fa 12 1 3,ld 13 12,oo 14 (.bin .str .neq (.t 11) (.t 13))] [14] (.cond (.t 14) (.seq (.ops [mk 4 (kb false)]) (.keep (kp [(4,0)] [] 0) .ret)) .skip)) (.trim [] (.seq (.ops [mk 4 (kb true)]) (.keep (kp [(4,0)] [] 0) .ret))))))),[.t 4]⟩
abbrev g114_S:=Sys.on [] []
def laws_eqPut (a_a:Int × Str) (a_b:Int × Str):Option (Bool):=if ¬(a_a.1 = a_b.1) then some false else if ¬(a_a.2 = a_b.2) then some false else some true
@[simp] def g114_O:Bool → TV × List Blk:=fun r=>((.bool r),[])
def g114_E (a:(Int × Str) × (Int × Str)):List TV:=[(.agg [(.int .i64 a.1.1),(.str a.1.2)]),(.agg [(.int .i64 a.2.1),(.str a.2.2)])]
theorem g114_run (a_a:Int × Str) (a_b:Int × Str) :callFn (X g114_S) g114_tf (g114_E (a_a,a_b)) [] = (laws_eqPut a_a a_b).map g114_O:=by
  rw [callFn_eq]
  simp (maxSteps:=2000000) (maxDischargeDepth:=8) -implicitDefEqProofs [g114_tf,laws_eqPut,g114_E] <;> (try simp only [map_to_bind,some_elim,g114_O])
def g114_r:Rule:=RlO g114_E (fun a=>laws_eqPut a.1 a.2) g114_O
theorem g114_ok:RuleOk Tryz.prog 92 g114_r:=ok_rlo (S:=g114_S) (tf:=g114_tf) (SysOk.on trivial trivial) (trE_ok (ks:=[]) Tryz.func92 (by kernel_rfl)) fun a=>g114_run a.1 a.2
@[simp] theorem g114_app (y0 y1 y2 y3):g114_r [(.agg [(.int .i64 y0),(.str y1)]),(.agg [(.int .i64 y2),(.str y3)])] = (laws_eqPut ((y0,y1)) ((y2,y3))).map g114_O :=
  RlO_app (enc:=g114_E) (by intro a b h; simp [g114_E,Prod.ext_iff] at h ⊢; simp [h]) ((y0,y1),(y2,y3))
/-! laws.eqPutS -/
def g105l1_cb:TC:=(.seq (sq [mo 11 5,mo 12 0,le 13 12,bn 14 .lss (.t 11) (.t 13)] [0,1,5,14] (.cond (.t 14) .skip (.keep (kp [] [] 0) (.exit 0)))) (.trim [0,1,5] (.seq (.block 1 (.seq (.draw [([],mo 17 0),([],mo 18 5),([0,1],ia 19 2 17 18),([0,1,2],ln 20 2 19),([],mo 21 1),([],mo 22 5),([4,5],ia 23 2 21 22),([4,5,6],ln 24 2 23)] [ca 25 92 [.t 20,.t 24],nt 26 25]) (.trim [0,1,5,26] (.cond (.t 26) (.seq (.ops [mk 4 (kb false)]) (.keep (kp [(4,0)] [] 0) .ret)) .skip)))) (.trim [0,1,5] (.after (.ops [mo 15 5,bn 16 .add (.t 15) (ki 1),mo 5 16]) (kp [(0,0),(1,0),(5,0)] [] 0))))))
def g105l1_c:TC:=.loop [0,1,5] g105l1_cb
def g105_tf:TFn:=⟨(sq [mk 4 (kb false)] [0,1] (.seq (sq [mo 6 0,le 7 6,mo 8 1,le 9 8,bn 10 .neq (.t 7) (.t 9)] [0,1,10] (.cond (.t 10) (.seq (.ops [mk 4 (kb false)]) (.keep (kp [(4,0)] [] 0) .ret)) .skip)) (.trim [0,1] (.seq (sq [mk 5 (ki 0)] [0,1,5] (.block 0 (.keep (kp [(0,0),(1,0),(5,0)] [] 0) g105l1_c))) (.trim [] (.seq (.ops [mk 4 (kb true)]) (.keep (kp [(4,0)] [] 0) .ret))))))),[.t 4]⟩
abbrev g105_S:=Sys.on [(92,g114_r)] []
@[reducible,simp] def g105l1_F:((Unit) ⊕ (Bool)) → Out:=(Sum.elim (fun t=>(.ext 0,[],[])) (fun t=>(.ret,[(4,(.bool t))],[])))
def laws_eqPutS_l1_b (v1:List (Int × Str)) (v2:List (Int × Str)) (v3:Int):Option ((Int) ⊕ ((Unit) ⊕ (Bool))):=if v3 < (v1.length:Int) then if 0 ≤ v3 then (v1[(v3).toNat]?).bind fun x4=>if 0 ≤ v3 then (v2[(v3).toNat]?).bind fun x5=>(laws_eqPut x4 x5).bind fun r6=>if ¬(r6 = true) then some (.inr (.inr false)) else some (.inl ((IntKind.i64.wrap (v3 + 1)))) else none else none else some (.inr (.inl ()))
theorem g105l1_b_eq  (v1:List (Int × Str)) (v2:List (Int × Str)) (v3:Int):X g105_S g105l1_cb (keepEnv [0,1,5] [(0,(.vs (rows v1))),(1,(.vs (rows v2))),(5,(.int .i64 v3))]) [] = (laws_eqPutS_l1_b v1 v2 v3).map (Sum.elim (fun s=>(TX.nrm,[(0,(.vs (rows v1))),(1,(.vs (rows v2))),(5,(.int .i64 s))],[])) g105l1_F):=by
  simp (maxSteps:=2000000) (maxDischargeDepth:=8) -implicitDefEqProofs [g105l1_cb,laws_eqPutS_l1_b] <;> (try simp only [map_to_bind,some_elim,g105l1_F])
def laws_eqPutS_l1 (v1:List (Int × Str)) (v2:List (Int × Str)) (s:Int):Option ((Unit) ⊕ (Bool)):=loopO (fun s=>laws_eqPutS_l1_b v1 v2 s) s
@[simp] theorem g105l1_eq (y0 y1 y2):X g105_S g105l1_c [(0,(.vs (rows y0))),(1,(.vs (rows y1))),(5,(.int .i64 y2))] [] = (laws_eqPutS_l1 y0 y1 y2).map g105l1_F:=by
  exact loop_X _ _ _ _ (by intro r; first | (simp; done) | (rcases r with r | r <;> simp; done) | (rcases r with r | r | r <;> simp; done) | (rcases r with r | r | r | r <;> simp)) (fun s=>g105l1_b_eq  y0 y1 s) y2
def laws_eqPutS (a_a:List (Int × Str)) (a_b:List (Int × Str)):Option (Bool):=if ¬((a_a.length:Int) = (a_b.length:Int)) then some false else (laws_eqPutS_l1 a_a a_b 0).bind fun r7=>Sum.elim (fun u8=>some true) (fun u9=>some u9) r7
@[simp] def g105_O:Bool → TV × List Blk:=fun r=>((.bool r),[])
def g105_E (a:(List (Int × Str)) × (List (Int × Str))):List TV:=[(.vs (rows a.1)),(.vs (rows a.2))]
theorem g105_run (a_a:List (Int × Str)) (a_b:List (Int × Str)) :callFn (X g105_S) g105_tf (g105_E (a_a,a_b)) [] = (laws_eqPutS a_a a_b).map g105_O:=by
  rw [callFn_eq]
  simp (maxSteps:=2000000) (maxDischargeDepth:=8) -implicitDefEqProofs [g105_tf,laws_eqPutS,g105_E] <;> (try simp only [map_to_bind,some_elim,g105_O])
def g105_r:Rule:=RlO g105_E (fun a=>laws_eqPutS a.1 a.2) g105_O
theorem g105_ok:RuleOk Tryz.prog 61 g105_r:=ok_rlo (S:=g105_S) (tf:=g105_tf) (SysOk.on ⟨g114_ok,trivial⟩ trivial) (trE_ok (ks:=[[0,1,5],[8]]) Tryz.func61 (by kernel_rfl)) fun a=>g105_run a.1 a.2
@[simp] theorem g105_app (y0 y1):g105_r [(.vs (rows y0)),(.vs (rows y1))] = (laws_eqPutS y0 y1).map g105_O :=
  RlO_app (enc:=g105_E) (by intro a b h; simp [g105_E,Prod.ext_iff] at h ⊢; simp [h]) (y0,y1)
/-! laws.eqDisk -/
def g106_tf:TFn:=⟨(sq [bx 2 0,bx 3 1,mk 4 (kb false)] [2,3] (.seq (sq [fa 5 0 2,ld 6 5,fa 7 0 3,ld 8 7,ca 9 60 [.t 6,.t 8],nt 10 9] [2,3,10] (.cond (.t 10) (.seq (.ops [mk 4 (kb false)]) (.keep (kp [(4,0)] [] 0) .ret)) .skip)) (.trim [2,3] (.seq (sq [fa 11 1 2,ld 12 11,fa 13 1 3,ld 14 13,ca 15 61 [.t 12,.t 14],nt 16 15] [2,3,16] (.cond (.t 16) (.seq (.ops [mk 4 (kb false)]) (.keep (kp [(4,0)] [] 0) .ret)) .skip)) (.trim [2,3] (.seq (sq [fa 17 2 2,ld 18 17,fa 19 2 3,ld 20 19,bn 21 .neq (.t 18) (.t 20)] [2,3,21] (.cond (.t 21) (.seq (.ops [mk 4 (kb false)]) (.keep (kp [(4,0)] [] 0) .ret)) .skip)) (.trim [2,3] (.seq (sq [fa 22 3 2,ld 23 22,fa 24 3 3,ld 25 24,oo 26 (.bin .bool .neq (.t 23) (.t 25))] [26] (.cond (.t 26) (.seq (.ops [mk 4 (kb false)]) (.keep (kp [(4,0)] [] 0) .ret)) .skip)) (.trim [] (.seq (.ops [mk 4 (kb true)]) (.keep (kp [(4,0)] [] 0) .ret))))))))))),[.t 4]⟩
abbrev g106_S:=Sys.on [(60,g68_r),(61,g105_r)] []
def laws_eqDisk (a_a:K0) (a_b:K0):Option (Bool):=(laws_eqStringS a_a.1 a_b.1).bind fun r1=>if ¬(r1 = true) then some false else (laws_eqPutS a_a.2.1 a_b.2.1).bind fun r2=>if ¬(r2 = true) then some false else if ¬(a_a.2.2.1 = a_b.2.2.1) then some false else if ((!(a_a.2.2.2 == a_b.2.2.2))) = true then some false else some true
@[simp] def g106_O:Bool → TV × List Blk:=fun r=>((.bool r),[])
def g106_E (a:K0 × K0):List TV:=[(.agg [(.vs (rows a.1.1)),(.vs (rows a.1.2.1)),(.int .i64 a.1.2.2.1),(.bool a.1.2.2.2)]),(.agg [(.vs (rows a.2.1)),(.vs (rows a.2.2.1)),(.int .i64 a.2.2.2.1),(.bool a.2.2.2.2)])]
theorem g106_run (a_a:K0) (a_b:K0) :callFn (X g106_S) g106_tf (g106_E (a_a,a_b)) [] = (laws_eqDisk a_a a_b).map g106_O:=by
  rw [callFn_eq]
  simp (maxSteps:=2000000) (maxDischargeDepth:=8) -implicitDefEqProofs [g106_tf,laws_eqDisk,g106_E] <;> (try simp only [map_to_bind,some_elim,g106_O])
def g106_r:Rule:=RlO g106_E (fun a=>laws_eqDisk a.1 a.2) g106_O
theorem g106_ok:RuleOk Tryz.prog 23 g106_r:=ok_rlo (S:=g106_S) (tf:=g106_tf) (SysOk.on ⟨g68_ok,g105_ok,trivial⟩ trivial) (trE_ok (ks:=[]) Tryz.func23 (by kernel_rfl)) fun a=>g106_run a.1 a.2
@[simp] theorem g106_app (y0 y1 y2 y3 y4 y5 y6 y7):g106_r [(.agg [(.vs (rows y0)),(.vs (rows y1)),(.int .i64 y2),(.bool y3)]),(.agg [(.vs (rows y4)),(.vs (rows y5)),(.int .i64 y6),(.bool y7)])] = (laws_eqDisk ((y0,y1,y2,y3)) ((y4,y5,y6,y7))).map g106_O :=
  RlO_app (enc:=g106_E) (by intro a b h; simp [g106_E,Prod.ext_iff] at h ⊢; simp [h]) ((y0,y1,y2,y3),(y4,y5,y6,y7))
/-! laws.eqSuper -/
def g91_tf:TFn:=⟨(sq [bx 2 0,bx 3 1,mk 4 (kb false)] [2,3] (.seq (sq [fa 5 0 2,ld 6 5,fa 7 0 3,ld 8 7,bn 9 .neq (.t 6) (.t 8)] [2,3,9] (.cond (.t 9) (.seq (.ops [mk 4 (kb false)]) (.keep (kp [(4,0)] [] 0) .ret)) .skip)) (.trim [2,3] (.seq (sq [fa 10 1 2,ld 11 10,fa 12 1 3,ld 13 12,bn 14 .neq (.t 11) (.t 13)] [2,3,14] (.cond (.t 14) (.seq (.ops [mk 4 (kb false)]) (.keep (kp [(4,0)] [] 0) .ret)) .skip)) (.trim [2,3] (.seq (sq [fa 15 2 2,ld 16 15,fa 17 2 3,ld 18 17,bn 19 .neq (.t 16) (.t 18)] [2,3,19] (.cond (.t 19) (.seq (.ops [mk 4 (kb false)]) (.keep (kp [(4,0)] [] 0) .ret)) .skip)) (.trim [2,3] (.seq (sq [fa 20 3 2,ld 21 20,fa 22 3 3,ld 23 22,bn 24 .neq (.t 21) (.t 23)] [24] (.cond (.t 24) (.seq (.ops [mk 4 (kb false)]) (.keep (kp [(4,0)] [] 0) .ret)) .skip)) (.trim [] (.seq (.ops [mk 4 (kb true)]) (.keep (kp [(4,0)] [] 0) .ret))))))))))),[.t 4]⟩
abbrev g91_S:=Sys.on [] []
def laws_eqSuper (a_a:Int × Int × Int × Int) (a_b:Int × Int × Int × Int):Option (Bool):=if ¬(a_a.1 = a_b.1) then some false else if ¬(a_a.2.1 = a_b.2.1) then some false else if ¬(a_a.2.2.1 = a_b.2.2.1) then some false else if ¬(a_a.2.2.2 = a_b.2.2.2) then some false else some true
@[simp] def g91_O:Bool → TV × List Blk:=fun r=>((.bool r),[])
def g91_E (a:(Int × Int × Int × Int) × (Int × Int × Int × Int)):List TV:=[(.agg [(.int .i64 a.1.1),(.int .i64 a.1.2.1),(.int .i64 a.1.2.2.1),(.int .i64 a.1.2.2.2)]),(.agg [(.int .i64 a.2.1),(.int .i64 a.2.2.1),(.int .i64 a.2.2.2.1),(.int .i64 a.2.2.2.2)])]
theorem g91_run (a_a:Int × Int × Int × Int) (a_b:Int × Int × Int × Int) :callFn (X g91_S) g91_tf (g91_E (a_a,a_b)) [] = (laws_eqSuper a_a a_b).map g91_O:=by
  rw [callFn_eq]
  simp (maxSteps:=2000000) (maxDischargeDepth:=8) -implicitDefEqProofs [g91_tf,laws_eqSuper,g91_E] <;> (try simp only [map_to_bind,some_elim,g91_O])
def g91_r:Rule:=RlO g91_E (fun a=>laws_eqSuper a.1 a.2) g91_O
theorem g91_ok:RuleOk Tryz.prog 24 g91_r:=ok_rlo (S:=g91_S) (tf:=g91_tf) (SysOk.on trivial trivial) (trE_ok (ks:=[]) Tryz.func24 (by kernel_rfl)) fun a=>g91_run a.1 a.2
@[simp] theorem g91_app (y0 y1 y2 y3 y4 y5 y6 y7):g91_r [(.agg [(.int .i64 y0),(.int .i64 y1),(.int .i64 y2),(.int .i64 y3)]),(.agg [(.int .i64 y4),(.int .i64 y5),(.int .i64 y6),(.int .i64 y7)])] = (laws_eqSuper ((y0,y1,y2,y3)) ((y4,y5,y6,y7))).map g91_O :=
  RlO_app (enc:=g91_E) (by intro a b h; simp [g91_E,Prod.ext_iff] at h ⊢; simp [h]) ((y0,y1,y2,y3),(y4,y5,y6,y7))
/-! laws.eqPage -/
def g107_tf:TFn:=⟨(sq [bx 2 0,bx 3 1,mk 4 (kb false)] [2,3] (.seq (sq [fa 5 0 2,ld 6 5,fa 7 0 3,ld 8 7,bn 9 .neq (.t 6) (.t 8)] [2,3,9] (.cond (.t 9) (.seq (.ops [mk 4 (kb false)]) (.keep (kp [(4,0)] [] 0) .ret)) .skip)) (.trim [2,3] (.seq (sq [fa 10 1 2,ld 11 10,fa 12 1 3,ld 13 12,oo 14 (.bin .str .neq (.t 11) (.t 13))] [14] (.cond (.t 14) (.seq (.ops [mk 4 (kb false)]) (.keep (kp [(4,0)] [] 0) .ret)) .skip)) (.trim [] (.seq (.ops [mk 4 (kb true)]) (.keep (kp [(4,0)] [] 0) .ret))))))),[.t 4]⟩
abbrev g107_S:=Sys.on [] []
def laws_eqPage (a_a:Int × Str) (a_b:Int × Str):Option (Bool):=if ¬(a_a.1 = a_b.1) then some false else if ¬(a_a.2 = a_b.2) then some false else some true
@[simp] def g107_O:Bool → TV × List Blk:=fun r=>((.bool r),[])
def g107_E (a:(Int × Str) × (Int × Str)):List TV:=[(.agg [(.int .i64 a.1.1),(.str a.1.2)]),(.agg [(.int .i64 a.2.1),(.str a.2.2)])]
theorem g107_run (a_a:Int × Str) (a_b:Int × Str) :callFn (X g107_S) g107_tf (g107_E (a_a,a_b)) [] = (laws_eqPage a_a a_b).map g107_O:=by
  rw [callFn_eq]
  simp (maxSteps:=2000000) (maxDischargeDepth:=8) -implicitDefEqProofs [g107_tf,laws_eqPage,g107_E] <;> (try simp only [map_to_bind,some_elim,g107_O])
def g107_r:Rule:=RlO g107_E (fun a=>laws_eqPage a.1 a.2) g107_O
theorem g107_ok:RuleOk Tryz.prog 62 g107_r:=ok_rlo (S:=g107_S) (tf:=g107_tf) (SysOk.on trivial trivial) (trE_ok (ks:=[]) Tryz.func62 (by kernel_rfl)) fun a=>g107_run a.1 a.2
@[simp] theorem g107_app (y0 y1 y2 y3):g107_r [(.agg [(.int .i64 y0),(.str y1)]),(.agg [(.int .i64 y2),(.str y3)])] = (laws_eqPage ((y0,y1)) ((y2,y3))).map g107_O :=
  RlO_app (enc:=g107_E) (by intro a b h; simp [g107_E,Prod.ext_iff] at h ⊢; simp [h]) ((y0,y1),(y2,y3))
/-! laws.eqPageS -/
def g92l1_cb:TC:=(.seq (sq [mo 11 5,mo 12 0,le 13 12,bn 14 .lss (.t 11) (.t 13)] [0,1,5,14] (.cond (.t 14) .skip (.keep (kp [] [] 0) (.exit 0)))) (.trim [0,1,5] (.seq (.block 1 (.seq (.draw [([],mo 17 0),([],mo 18 5),([0,1],ia 19 2 17 18),([0,1,2],ln 20 2 19),([],mo 21 1),([],mo 22 5),([4,5],ia 23 2 21 22),([4,5,6],ln 24 2 23)] [ca 25 62 [.t 20,.t 24],nt 26 25]) (.trim [0,1,5,26] (.cond (.t 26) (.seq (.ops [mk 4 (kb false)]) (.keep (kp [(4,0)] [] 0) .ret)) .skip)))) (.trim [0,1,5] (.after (.ops [mo 15 5,bn 16 .add (.t 15) (ki 1),mo 5 16]) (kp [(0,0),(1,0),(5,0)] [] 0))))))
def g92l1_c:TC:=.loop [0,1,5] g92l1_cb
def g92_tf:TFn:=⟨(sq [mk 4 (kb false)] [0,1] (.seq (sq [mo 6 0,le 7 6,mo 8 1,le 9 8,bn 10 .neq (.t 7) (.t 9)] [0,1,10] (.cond (.t 10) (.seq (.ops [mk 4 (kb false)]) (.keep (kp [(4,0)] [] 0) .ret)) .skip)) (.trim [0,1] (.seq (sq [mk 5 (ki 0)] [0,1,5] (.block 0 (.keep (kp [(0,0),(1,0),(5,0)] [] 0) g92l1_c))) (.trim [] (.seq (.ops [mk 4 (kb true)]) (.keep (kp [(4,0)] [] 0) .ret))))))),[.t 4]⟩
abbrev g92_S:=Sys.on [(62,g107_r)] []
@[reducible,simp] def g92l1_F:((Unit) ⊕ (Bool)) → Out:=(Sum.elim (fun t=>(.ext 0,[],[])) (fun t=>(.ret,[(4,(.bool t))],[])))
def laws_eqPageS_l1_b (v1:List (Int × Str)) (v2:List (Int × Str)) (v3:Int):Option ((Int) ⊕ ((Unit) ⊕ (Bool))):=if v3 < (v1.length:Int) then if 0 ≤ v3 then (v1[(v3).toNat]?).bind fun x4=>if 0 ≤ v3 then (v2[(v3).toNat]?).bind fun x5=>(laws_eqPage x4 x5).bind fun r6=>if ¬(r6 = true) then some (.inr (.inr false)) else some (.inl ((IntKind.i64.wrap (v3 + 1)))) else none else none else some (.inr (.inl ()))
theorem g92l1_b_eq  (v1:List (Int × Str)) (v2:List (Int × Str)) (v3:Int):X g92_S g92l1_cb (keepEnv [0,1,5] [(0,(.vs (rows v1))),(1,(.vs (rows v2))),(5,(.int .i64 v3))]) [] = (laws_eqPageS_l1_b v1 v2 v3).map (Sum.elim (fun s=>(TX.nrm,[(0,(.vs (rows v1))),(1,(.vs (rows v2))),(5,(.int .i64 s))],[])) g92l1_F):=by
  simp (maxSteps:=2000000) (maxDischargeDepth:=8) -implicitDefEqProofs [g92l1_cb,laws_eqPageS_l1_b] <;> (try simp only [map_to_bind,some_elim,g92l1_F])
def laws_eqPageS_l1 (v1:List (Int × Str)) (v2:List (Int × Str)) (s:Int):Option ((Unit) ⊕ (Bool)):=loopO (fun s=>laws_eqPageS_l1_b v1 v2 s) s
@[simp] theorem g92l1_eq (y0 y1 y2):X g92_S g92l1_c [(0,(.vs (rows y0))),(1,(.vs (rows y1))),(5,(.int .i64 y2))] [] = (laws_eqPageS_l1 y0 y1 y2).map g92l1_F:=by
  exact loop_X _ _ _ _ (by intro r; first | (simp; done) | (rcases r with r | r <;> simp; done) | (rcases r with r | r | r <;> simp; done) | (rcases r with r | r | r | r <;> simp)) (fun s=>g92l1_b_eq  y0 y1 s) y2
def laws_eqPageS (a_a:List (Int × Str)) (a_b:List (Int × Str)):Option (Bool):=if ¬((a_a.length:Int) = (a_b.length:Int)) then some false else (laws_eqPageS_l1 a_a a_b 0).bind fun r7=>Sum.elim (fun u8=>some true) (fun u9=>some u9) r7
@[simp] def g92_O:Bool → TV × List Blk:=fun r=>((.bool r),[])
def g92_E (a:(List (Int × Str)) × (List (Int × Str))):List TV:=[(.vs (rows a.1)),(.vs (rows a.2))]
theorem g92_run (a_a:List (Int × Str)) (a_b:List (Int × Str)) :callFn (X g92_S) g92_tf (g92_E (a_a,a_b)) [] = (laws_eqPageS a_a a_b).map g92_O:=by
  rw [callFn_eq]
  simp (maxSteps:=2000000) (maxDischargeDepth:=8) -implicitDefEqProofs [g92_tf,laws_eqPageS,g92_E] <;> (try simp only [map_to_bind,some_elim,g92_O])
def g92_r:Rule:=RlO g92_E (fun a=>laws_eqPageS a.1 a.2) g92_O
theorem g92_ok:RuleOk Tryz.prog 25 g92_r:=ok_rlo (S:=g92_S) (tf:=g92_tf) (SysOk.on ⟨g107_ok,trivial⟩ trivial) (trE_ok (ks:=[[0,1,5],[8]]) Tryz.func25 (by kernel_rfl)) fun a=>g92_run a.1 a.2
@[simp] theorem g92_app (y0 y1):g92_r [(.vs (rows y0)),(.vs (rows y1))] = (laws_eqPageS y0 y1).map g92_O :=
  RlO_app (enc:=g92_E) (by intro a b h; simp [g92_E,Prod.ext_iff] at h ⊢; simp [h]) (y0,y1)
/-! laws.eqPager -/
def g93_tf:TFn:=⟨(sq [bx 2 0,bx 3 1,mk 4 (kb false)] [2,3] (.seq (sq [fa 5 0 2,ln 6 4 5,fa 7 0 3,ln 8 4 7,ca 9 23 [.t 6,.t 8],nt 10 9] [2,3,10] (.cond (.t 10) (.seq (.ops [mk 4 (kb false)]) (.keep (kp [(4,0)] [] 0) .ret)) .skip)) (.trim [2,3] (.seq (sq [fa 11 4 2,ln 12 4 11,fa 13 4 3,ln 14 4 13,ca 15 24 [.t 12,.t 14],nt 16 15] [2,3,16] (.cond (.t 16) (.seq (.ops [mk 4 (kb false)]) (.keep (kp [(4,0)] [] 0) .ret)) .skip)) (.trim [2,3] (.seq (sq [fa 17 8 2,ld 18 17,fa 19 8 3,ld 20 19,bn 21 .neq (.t 18) (.t 20)] [2,3,21] (.cond (.t 21) (.seq (.ops [mk 4 (kb false)]) (.keep (kp [(4,0)] [] 0) .ret)) .skip)) (.trim [2,3] (.seq (sq [fa 22 9 2,ld 23 22,fa 24 9 3,ld 25 24,bn 26 .neq (.t 23) (.t 25)] [2,3,26] (.cond (.t 26) (.seq (.ops [mk 4 (kb false)]) (.keep (kp [(4,0)] [] 0) .ret)) .skip)) (.trim [2,3] (.seq (sq [fa 27 10 2,ld 28 27,fa 29 10 3,ld 30 29,ca 31 25 [.t 28,.t 30],nt 32 31] [2,3,32] (.cond (.t 32) (.seq (.ops [mk 4 (kb false)]) (.keep (kp [(4,0)] [] 0) .ret)) .skip)) (.trim [2,3] (.seq (sq [fa 33 11 2,ld 34 33,fa 35 11 3,ld 36 35,ca 37 25 [.t 34,.t 36],nt 38 37] [38] (.cond (.t 38) (.seq (.ops [mk 4 (kb false)]) (.keep (kp [(4,0)] [] 0) .ret)) .skip)) (.trim [] (.seq (.ops [mk 4 (kb true)]) (.keep (kp [(4,0)] [] 0) .ret))))))))))))))),[.t 4]⟩
abbrev g93_S:=Sys.on [(23,g106_r),(24,g91_r),(25,g92_r)] []
def laws_eqPager (a_a:K1) (a_b:K1):Option (Bool):=(laws_eqDisk a_a.1 a_b.1).bind fun r1=>if ¬(r1 = true) then some false else (laws_eqSuper a_a.2.1 a_b.2.1).bind fun r2=>if ¬(r2 = true) then some false else if ¬(a_a.2.2.1 = a_b.2.2.1) then some false else if ¬(a_a.2.2.2.1 = a_b.2.2.2.1) then some false else (laws_eqPageS a_a.2.2.2.2.1 a_b.2.2.2.2.1).bind fun r3=>if ¬(r3 = true) then some false else (laws_eqPageS a_a.2.2.2.2.2 a_b.2.2.2.2.2).bind fun r4=>if ¬(r4 = true) then some false else some true
@[simp] def g93_O:Bool → TV × List Blk:=fun r=>((.bool r),[])
def g93_E (a:K1 × K1):List TV:=[(.agg [(.vs (rows a.1.1.1)),(.vs (rows a.1.1.2.1)),(.int .i64 a.1.1.2.2.1),(.bool a.1.1.2.2.2),(.int .i64 a.1.2.1.1),(.int .i64 a.1.2.1.2.1),(.int .i64 a.1.2.1.2.2.1),(.int .i64 a.1.2.1.2.2.2),(.int .i64 a.1.2.2.1),(.int .i64 a.1.2.2.2.1),(.vs (rows a.1.2.2.2.2.1)),(.vs (rows a.1.2.2.2.2.2))]),(.agg [(.vs (rows a.2.1.1)),(.vs (rows a.2.1.2.1)),(.int .i64 a.2.1.2.2.1),(.bool a.2.1.2.2.2),(.int .i64 a.2.2.1.1),(.int .i64 a.2.2.1.2.1),(.int .i64 a.2.2.1.2.2.1),(.int .i64 a.2.2.1.2.2.2),(.int .i64 a.2.2.2.1),(.int .i64 a.2.2.2.2.1),(.vs (rows a.2.2.2.2.2.1)),(.vs (rows a.2.2.2.2.2.2))])]
theorem g93_run (a_a:K1) (a_b:K1) :callFn (X g93_S) g93_tf (g93_E (a_a,a_b)) [] = (laws_eqPager a_a a_b).map g93_O:=by
  rw [callFn_eq]
  simp (maxSteps:=2000000) (maxDischargeDepth:=8) -implicitDefEqProofs [g93_tf,laws_eqPager,g93_E] <;> (try simp only [map_to_bind,some_elim,g93_O])
def g93_r:Rule:=RlO g93_E (fun a=>laws_eqPager a.1 a.2) g93_O
theorem g93_ok:RuleOk Tryz.prog 8 g93_r:=ok_rlo (S:=g93_S) (tf:=g93_tf) (SysOk.on ⟨g106_ok,g91_ok,g92_ok,trivial⟩ trivial) (trE_ok (ks:=[]) Tryz.func8 (by kernel_rfl)) fun a=>g93_run a.1 a.2
@[simp] theorem g93_app (y0 y1 y2 y3 y4 y5 y6 y7 y8 y9 y10 y11 y12 y13 y14 y15 y16 y17 y18 y19 y20 y21 y22 y23):g93_r [(.agg [(.vs (rows y0)),(.vs (rows y1)),(.int .i64 y2),(.bool y3),(.int .i64 y4),(.int .i64 y5),(.int .i64 y6),(.int .i64 y7),(.int .i64 y8),(.int .i64 y9),(.vs (rows y10)),(.vs (rows y11))]),(.agg [(.vs (rows y12)),(.vs (rows y13)),(.int .i64 y14),(.bool y15),(.int .i64 y16),(.int .i64 y17),(.int .i64 y18),(.int .i64 y19),(.int .i64 y20),(.int .i64 y21),(.vs (rows y22)),(.vs (rows y23))])] = (laws_eqPager (((y0,y1,y2,y3),(y4,y5,y6,y7),y8,y9,y10,y11)) (((y12,y13,y14,y15),(y16,y17,y18,y19),y20,y21,y22,y23))).map g93_O :=
  RlO_app (enc:=g93_E) (by intro a b h; simp [g93_E,Prod.ext_iff] at h ⊢; simp [h]) (((y0,y1,y2,y3),(y4,y5,y6,y7),y8,y9,y10,y11),((y12,y13,y14,y15),(y16,y17,y18,y19),y20,y21,y22,y23))
/-! laws.markText -/
def g76l1_cb:TC:=(.seq (sq [mo 6 0,bn 7 .gtr (.t 6) (ki 0)] [0,3,7] (.cond (.t 7) .skip (.keep (kp [(3,0)] [] 0) (.exit 0)))) (.trim [0,3] (.block 1 (sq [mo 8 0,bn 9 .rem (.t 8) (ki 10),bn 10 .add (ki 48) (.t 9),oo 11 (.conv (.toInt .u8) (.t 10)),oo 12 (.bslice [(.int .u8 0)] 1 [(0,(.t 11))]),oo 13 (.conv .toStr (.t 12)),mo 14 3,oo 15 (.bin .str .add (.t 13) (.t 14)),mo 3 15] [0,3] (.after (.ops [mo 16 0,bn 17 .quo (.t 16) (ki 10),mo 0 17]) (kp [(0,0),(3,0)] [] 0))))))
def g76l1_c:TC:=.loop [0,3] g76l1_cb
def g76_tf:TFn:=⟨(sq [mk 2 (.c (.str []))] [0] (.seq (sq [mo 4 0,bn 5 .leq (.t 4) (ki 0)] [0,5] (.cond (.t 5) (.seq (.ops [mk 2 (.c (.str [109,48]))]) (.keep (kp [(2,0)] [] 0) .ret)) .skip)) (.trim [0] (sq [mk 3 (.c (.str []))] [0,3] (.seq (.block 0 (.keep (kp [(0,0),(3,0)] [] 0) g76l1_c)) (.trim [3] (.seq (.ops [mo 18 3,oo 19 (.bin .str .add (.c (.str [109])) (.t 18)),mo 2 19]) (.keep (kp [(2,0)] [] 0) .ret)))))))),[.t 2]⟩
abbrev g76_S:=Sys.on [] []
@[reducible,simp] def g76l1_F:Str → Out:=(fun t=>(.ext 0,[(3,(.str t))],[]))
def laws_markText_l1_b (v1:Int) (v2:Str):Option ((Int × Str) ⊕ (Str)):=if v1 > 0 then if ((((lit [(⟨UInt8.ofNat ((IntKind.u8.wrap ((IntKind.i64.wrap (48 + (Int.tmod v1 10)))))).toNat⟩:Bt)]:List Bt)).map Bt.v)).length + v2.length ≤ 9223372036854775807 then some (.inl ((IntKind.i64.wrap (Int.tdiv v1 10)),((((lit [(⟨UInt8.ofNat ((IntKind.u8.wrap ((IntKind.i64.wrap (48 + (Int.tmod v1 10)))))).toNat⟩:Bt)]:List Bt)).map Bt.v) ++ v2))) else none else some (.inr v2)
theorem g76l1_b_eq  (v1:Int) (v2:Str):X g76_S g76l1_cb (keepEnv [0,3] [(0,(.int .i64 v1)),(3,(.str v2))]) [] = (laws_markText_l1_b v1 v2).map (Sum.elim (fun s=>(TX.nrm,[(0,(.int .i64 s.1)),(3,(.str s.2))],[])) g76l1_F):=by
  simp (maxSteps:=2000000) (maxDischargeDepth:=8) -implicitDefEqProofs [g76l1_cb,laws_markText_l1_b,bslV_lit (α:=Bt) (zs:=[(.int .u8 0)])] <;> (try simp only [map_to_bind,some_elim,g76l1_F])
def laws_markText_l1  (s:Int × Str):Option (Str):=loopO (fun s=>laws_markText_l1_b  s.1 s.2) s
@[simp] theorem g76l1_eq (y0 y1):X g76_S g76l1_c [(0,(.int .i64 y0)),(3,(.str y1))] [] = (laws_markText_l1  (y0,y1)).map g76l1_F:=by
  exact loop_X _ _ _ _ (by intro r; first | (simp; done) | (rcases r with r | r <;> simp; done) | (rcases r with r | r | r <;> simp; done) | (rcases r with r | r | r | r <;> simp)) (fun s=>g76l1_b_eq   s.1 s.2) (y0,y1)
def laws_markText (a_k:Int):Option (Str):=if a_k ≤ 0 then some (([109,48]:Str)) else (laws_markText_l1 ((a_k,([]:Str)))).bind fun r3=>if (([109]:Str)).length + r3.length ≤ 9223372036854775807 then some ((([109]:Str) ++ r3)) else none
@[simp] def g76_O:Str → TV × List Blk:=fun r=>((.str r),[])
def g76_E (a:Int):List TV:=[(.int .i64 a)]
theorem g76_run (a_k:Int) :callFn (X g76_S) g76_tf (g76_E a_k) [] = (laws_markText a_k).map g76_O:=by
  rw [callFn_eq]
  simp (maxSteps:=2000000) (maxDischargeDepth:=8) -implicitDefEqProofs [g76_tf,laws_markText,g76_E,bslV_lit (α:=Bt) (zs:=[(.int .u8 0)])] <;> (try simp only [map_to_bind,some_elim,g76_O])
def g76_r:Rule:=RlO g76_E (fun a=>laws_markText a) g76_O
theorem g76_ok:RuleOk Tryz.prog 65 g76_r:=ok_rlo (S:=g76_S) (tf:=g76_tf) (SysOk.on trivial trivial) (trE_ok (ks:=[[0,3]]) Tryz.func65 (by kernel_rfl)) fun a=>g76_run a
@[simp] theorem g76_app (y0):g76_r [(.int .i64 y0)] = (laws_markText y0).map g76_O :=
  RlO_app (enc:=g76_E) (by intro a b h; simp [g76_E,Prod.ext_iff] at h ⊢; simp [h]) y0
/-! laws.markStringS -/
def g20l1_cb:TC:=(.seq (sq [mo 6 5,mo 7 0,le 8 7,bn 9 .lss (.t 6) (.t 8)] [0,1,5,9] (.cond (.t 9) .skip (.keep (kp [(1,0)] [(0,1)] 1) (.exit 0)))) (.trim [0,1,5] (.seq (.block 1 (sq [mo 12 0,mo 13 5,mo 14 1,ca 15 65 [.t 14],ia 16 1 12 13,⟨none,none,(.store 1 (.t 16) (.t 15))⟩] [0,1,5] (.ops [mo 17 1,bn 18 .add (.t 17) (ki 1),mo 1 18]))) (.trim [0,1,5] (.after (.ops [mo 10 5,bn 11 .add (.t 10) (ki 1),mo 5 11]) (kp [(0,0),(1,0),(5,0)] [(0,1)] 1))))))
def g20l1_c:TC:=.loop [0,1,5] g20l1_cb
def g20_tf:TFn:=⟨(sq [mk 4 (ki 0)] [0,1] (.seq (sq [mk 5 (ki 0)] [0,1,5] (.block 0 (.keep (kp [(0,0),(1,0),(5,0)] [(0,1)] 1) g20l1_c))) (.trim [1] (.seq (.ops [mo 19 1,mo 4 19]) (.keep (kp [(4,0)] [(0,1)] 1) .ret))))),[.t 4]⟩
abbrev g20_S:=Sys.on [(65,g76_r)] []
@[reducible,simp] def g20l1_F:(List Str × Int) → Out:=(fun t=>(.ext 0,[(1,(.int .i64 t.2))],[(ob 1 t.1)]))
def laws_markStringS_o35_l1_b (v1:List Str) (v2:Int) (v3:Int):Option ((List Str × Int × Int) ⊕ (List Str × Int)):=if v3 < ((v1.length:Nat):Int) then (laws_markText v2).bind fun r4=>if 0 ≤ v3 ∧ v3 < ((v1.length:Nat):Int) then (v1[(v3).toNat]?).bind fun x5=>some (.inl ((v1.set (v3).toNat r4),(IntKind.i64.wrap (v2 + 1)),(IntKind.i64.wrap (v3 + 1)))) else none else some (.inr (v1,v2))
theorem g20l1_b_eq  (v1:List Str) (v2:Int) (v3:Int):X g20_S g20l1_cb (keepEnv [0,1,5] [(0,(ow 0 v1.length)),(1,(.int .i64 v2)),(5,(.int .i64 v3))]) [(ob 1 v1)] = (laws_markStringS_o35_l1_b v1 v2 v3).map (Sum.elim (fun s=>(TX.nrm,[(0,(ow 0 s.1.length)),(1,(.int .i64 s.2.1)),(5,(.int .i64 s.2.2))],[(ob 1 s.1)])) g20l1_F):=by
  simp (maxSteps:=2000000) (maxDischargeDepth:=8) -implicitDefEqProofs [g20l1_cb,laws_markStringS_o35_l1_b] <;> (try simp only [map_to_bind,some_elim,g20l1_F])
def laws_markStringS_o35_l1  (s:List Str × Int × Int):Option (List Str × Int):=loopO (fun s=>laws_markStringS_o35_l1_b  s.1 s.2.1 s.2.2) s
@[simp] theorem g20l1_eq (y0:List Str)(y1 y2){n1:Nat}(h1:n1 = y0.length):X g20_S g20l1_c [(0,(ow 0 n1)),(1,(.int .i64 y1)),(5,(.int .i64 y2))] [(ob 1 y0)] = (laws_markStringS_o35_l1  (y0,y1,y2)).map g20l1_F:=by
  subst h1
  exact loop_X _ _ _ _ (by intro r; first | (simp; done) | (rcases r with r | r <;> simp; done) | (rcases r with r | r | r <;> simp; done) | (rcases r with r | r | r | r <;> simp)) (fun s=>g20l1_b_eq   s.1 s.2.1 s.2.2) (y0,y1,y2)
def laws_markStringS_o35 (a1:List Str) (a2:Int):Option (List Str × Int):=(laws_markStringS_o35_l1 ((a1,a2,0))).bind fun r6=>some (r6.1,r6.2)
@[simp] def g20_O:(List Str × Int) → TV × List Blk:=fun r=>((.int .i64 r.2),[(ob 1 r.1)])
abbrev g20_T:=List Str × Int
def g20_E (a:g20_T):List TV:=[(ow 0 a.1.length),(.int .i64 a.2)]
def g20_B (a:g20_T):List Blk:=[(ob 1 a.1)]
theorem g20_run (a1:List Str) (a2:Int) :callFn (X g20_S) g20_tf (g20_E (a1,a2)) (g20_B (a1,a2)) = (laws_markStringS_o35 a1 a2).map g20_O:=by
  rw [callFn_eq]
  simp (maxSteps:=2000000) (maxDischargeDepth:=8) -implicitDefEqProofs [g20_tf,laws_markStringS_o35,g20_E,g20_B] <;> (try simp only [map_to_bind,some_elim,g20_O])
def g20_r:MRule:=RmO g20_E g20_B (fun a=>(laws_markStringS_o35 a.1 a.2).bind fun r=>if r.1.length = a.1.length then some ((fixLen a.1 r.1),r.2) else none) g20_O
theorem g20_ok0:MRuleOk Tryz.prog 63 1 (RmO g20_E g20_B (fun a=>laws_markStringS_o35 a.1 a.2) g20_O):=ok_rmo (S:=g20_S) (tf:=g20_tf) (SysOk.on ⟨g76_ok,trivial⟩ trivial) (trE_ok (ks:=[[0,1,5]]) Tryz.func63 (by kernel_rfl)) (by rfl) (fun _=>by simp [g20_B]) (fun _=>by simp) fun a=>g20_run a.1 a.2
theorem g20_ok:MRuleOk Tryz.prog 63 1 g20_r:=g20_ok0.weak fun a r hr=>by
  simp only [Option.bind_eq_some_iff] at hr
  obtain ⟨x,h1,h2⟩:=hr
  split at h2
  · rename_i hc
    simp only [Option.some.injEq] at h2
    rw [h1,← h2]
    simp [fixLen,hc]
  · cases h2
@[simp] theorem g20_app (y0:List Str)(y1){n1:Nat}(h1:n1 = y0.length):g20_r [(ow 0 n1),(.int .i64 y1)] [(ob 1 y0)] = ((laws_markStringS_o35 y0 y1).bind fun r=>if r.1.length = y0.length then some ((fixLen y0 r.1),r.2) else none).map g20_O:=by
  subst h1
  exact RmO_app (enc:=g20_E) (encB:=g20_B) (by intro a b h h2; simp [g20_E,g20_B,Prod.ext_iff] at h h2 ⊢; simp [h,h2]) (y0,y1)
/-! laws.markPutS -/
def g43l1_cb:TC:=(.seq (sq [mo 6 5,mo 7 0,le 8 7,bn 9 .lss (.t 6) (.t 8)] [0,1,5,9] (.cond (.t 9) .skip (.keep (kp [(1,0)] [(0,1)] 1) (.exit 0)))) (.trim [0,1,5] (.seq (.block 1 (sq [mo 12 0,mo 13 5,mo 14 1,ia 15 2 12 13,fa 16 0 15,⟨none,none,(.store 1 (.t 16) (.t 14))⟩] [0,1,5] (sq [mo 17 1,bn 18 .add (.t 17) (ki 1),mo 1 18] [0,1,5] (sq [mo 19 0,mo 20 5,mo 21 1,ca 22 65 [.t 21],ia 23 2 19 20,fa 24 1 23,⟨none,none,(.store 1 (.t 24) (.t 22))⟩] [0,1,5] (.ops [mo 25 1,bn 26 .add (.t 25) (ki 1),mo 1 26]))))) (.trim [0,1,5] (.after (.ops [mo 10 5,bn 11 .add (.t 10) (ki 1),mo 5 11]) (kp [(0,0),(1,0),(5,0)] [(0,1)] 1))))))
def g43l1_c:TC:=.loop [0,1,5] g43l1_cb
def g43_tf:TFn:=⟨(sq [mk 4 (ki 0)] [0,1] (.seq (sq [mk 5 (ki 0)] [0,1,5] (.block 0 (.keep (kp [(0,0),(1,0),(5,0)] [(0,1)] 1) g43l1_c))) (.trim [1] (.seq (.ops [mo 27 1,mo 4 27]) (.keep (kp [(4,0)] [(0,1)] 1) .ret))))),[.t 4]⟩
abbrev g43_S:=Sys.on [(65,g76_r)] []
@[reducible,simp] def g43l1_F:((List (Int × Str)) × Int) → Out:=(fun t=>(.ext 0,[(1,(.int .i64 t.2))],[(ob 2 t.1)]))
def laws_markPutS_o2a_l1_b (v1:List (Int × Str)) (v2:Int) (v3:Int):Option (((List (Int × Str)) × Int × Int) ⊕ ((List (Int × Str)) × Int)):=if v3 < ((v1.length:Nat):Int) then if 0 ≤ v3 ∧ v3 < ((v1.length:Nat):Int) then (v1[(v3).toNat]?).bind fun x4=>(laws_markText ((IntKind.i64.wrap (v2 + 1)))).bind fun r5=>if 0 ≤ v3 ∧ v3 < ((v1.length:Nat):Int) then (((v1.set (v3).toNat (v2,x4.2)))[(v3).toNat]?).bind fun x6=>some (.inl ((((v1.set (v3).toNat (v2,x4.2))).set (v3).toNat (x6.1,r5)),(IntKind.i64.wrap ((IntKind.i64.wrap (v2 + 1)) + 1)),(IntKind.i64.wrap (v3 + 1)))) else none else none else some (.inr (v1,v2))
theorem g43l1_b_eq  (v1:List (Int × Str)) (v2:Int) (v3:Int):X g43_S g43l1_cb (keepEnv [0,1,5] [(0,(ow 0 v1.length)),(1,(.int .i64 v2)),(5,(.int .i64 v3))]) [(ob 2 v1)] = (laws_markPutS_o2a_l1_b v1 v2 v3).map (Sum.elim (fun s=>(TX.nrm,[(0,(ow 0 s.1.length)),(1,(.int .i64 s.2.1)),(5,(.int .i64 s.2.2))],[(ob 2 s.1)])) g43l1_F):=by
  simp (maxSteps:=2000000) (maxDischargeDepth:=8) -implicitDefEqProofs [g43l1_cb,laws_markPutS_o2a_l1_b] <;> (try simp only [map_to_bind,some_elim,g43l1_F])
def laws_markPutS_o2a_l1  (s:(List (Int × Str)) × Int × Int):Option ((List (Int × Str)) × Int):=loopO (fun s=>laws_markPutS_o2a_l1_b  s.1 s.2.1 s.2.2) s
@[simp] theorem g43l1_eq (y0:List (Int × Str))(y1 y2){n1:Nat}(h1:n1 = y0.length):X g43_S g43l1_c [(0,(ow 0 n1)),(1,(.int .i64 y1)),(5,(.int .i64 y2))] [(ob 2 y0)] = (laws_markPutS_o2a_l1  (y0,y1,y2)).map g43l1_F:=by
  subst h1
  exact loop_X _ _ _ _ (by intro r; first | (simp; done) | (rcases r with r | r <;> simp; done) | (rcases r with r | r | r <;> simp; done) | (rcases r with r | r | r | r <;> simp)) (fun s=>g43l1_b_eq   s.1 s.2.1 s.2.2) (y0,y1,y2)
def laws_markPutS_o2a (a1:List (Int × Str)) (a2:Int):Option ((List (Int × Str)) × Int):=(laws_markPutS_o2a_l1 ((a1,a2,0))).bind fun r7=>some (r7.1,r7.2)
@[simp] def g43_O:((List (Int × Str)) × Int) → TV × List Blk:=fun r=>((.int .i64 r.2),[(ob 2 r.1)])
abbrev g43_T:=(List (Int × Str)) × Int
def g43_E (a:g43_T):List TV:=[(ow 0 a.1.length),(.int .i64 a.2)]
def g43_B (a:g43_T):List Blk:=[(ob 2 a.1)]
theorem g43_run (a1:List (Int × Str)) (a2:Int) :callFn (X g43_S) g43_tf (g43_E (a1,a2)) (g43_B (a1,a2)) = (laws_markPutS_o2a a1 a2).map g43_O:=by
  rw [callFn_eq]
  simp (maxSteps:=2000000) (maxDischargeDepth:=8) -implicitDefEqProofs [g43_tf,laws_markPutS_o2a,g43_E,g43_B] <;> (try simp only [map_to_bind,some_elim,g43_O])
def g43_r:MRule:=RmO g43_E g43_B (fun a=>(laws_markPutS_o2a a.1 a.2).bind fun r=>if r.1.length = a.1.length then some ((fixLen a.1 r.1),r.2) else none) g43_O
theorem g43_ok0:MRuleOk Tryz.prog 64 1 (RmO g43_E g43_B (fun a=>laws_markPutS_o2a a.1 a.2) g43_O):=ok_rmo (S:=g43_S) (tf:=g43_tf) (SysOk.on ⟨g76_ok,trivial⟩ trivial) (trE_ok (ks:=[[0,1,5]]) Tryz.func64 (by kernel_rfl)) (by rfl) (fun _=>by simp [g43_B]) (fun _=>by simp) fun a=>g43_run a.1 a.2
theorem g43_ok:MRuleOk Tryz.prog 64 1 g43_r:=g43_ok0.weak fun a r hr=>by
  simp only [Option.bind_eq_some_iff] at hr
  obtain ⟨x,h1,h2⟩:=hr
  split at h2
  · rename_i hc
    simp only [Option.some.injEq] at h2
    rw [h1,← h2]
    simp [fixLen,hc]
  · cases h2
@[simp] theorem g43_app (y0:List (Int × Str))(y1){n1:Nat}(h1:n1 = y0.length):g43_r [(ow 0 n1),(.int .i64 y1)] [(ob 2 y0)] = ((laws_markPutS_o2a y0 y1).bind fun r=>if r.1.length = y0.length then some ((fixLen y0 r.1),r.2) else none).map g43_O:=by
  subst h1
  exact RmO_app (enc:=g43_E) (encB:=g43_B) (by intro a b h h2; simp [g43_E,g43_B,Prod.ext_iff] at h h2 ⊢; simp [h,h2]) (y0,y1)
/-! laws.markDisk -/
def g44_tf:TFn:=⟨(sq [bx 2 0,mk 4 (ki 0)] [1,2] (sq [fa 5 0 2,ld 6 5,mo 7 1,oo 8 (.callM 63 0 [0] [.t 6,.t 7]),mo 1 8] [1,2] (sq [fa 9 1 2,ld 10 9,mo 11 1,oo 12 (.callM 64 0 [1] [.t 10,.t 11]),mo 1 12] [1] (.seq (.ops [mo 13 1,mo 4 13]) (.keep (kp [(4,0)] [(0,1),(1,1)] 2) .ret))))),[.t 4]⟩
abbrev g44_S:=Sys.on [] [((63,0),(1,g20_r)),((64,0),(1,g43_r))]
def laws_markDisk_o3e (a1:List Str) (a2:List (Int × Str)) (a3:Int) (a4:Bool) (a5:Int):Option (List Str × (List (Int × Str)) × Int):=(laws_markStringS_o35 a1 a5).bind fun r1=>if r1.1.length = a1.length then (laws_markPutS_o2a a2 r1.2).bind fun r2=>if r2.1.length = a2.length then some ((fixLen a1 r1.1),(fixLen a2 r2.1),r2.2) else none else none
@[simp] def g44_O:(List Str × (List (Int × Str)) × Int) → TV × List Blk:=fun r=>((.int .i64 r.2.2),[(ob 1 r.1),(ob 2 r.2.1)])
abbrev g44_T:=List Str × (List (Int × Str)) × Int × Bool × Int
def g44_E (a:g44_T):List TV:=[(.agg [(ow 0 a.1.length),(ow 1 a.2.1.length),(.int .i64 a.2.2.1),(.bool a.2.2.2.1)]),(.int .i64 a.2.2.2.2)]
def g44_B (a:g44_T):List Blk:=[(ob 1 a.1),(ob 2 a.2.1)]
theorem g44_run (a1:List Str) (a2:List (Int × Str)) (a3:Int) (a4:Bool) (a5:Int) :callFn (X g44_S) g44_tf (g44_E (a1,a2,a3,a4,a5)) (g44_B (a1,a2,a3,a4,a5)) = (laws_markDisk_o3e a1 a2 a3 a4 a5).map g44_O:=by
  rw [callFn_eq]
  simp (maxSteps:=2000000) (maxDischargeDepth:=8) -implicitDefEqProofs [g44_tf,laws_markDisk_o3e,g44_E,g44_B] <;> (try simp only [map_to_bind,some_elim,g44_O])
def g44_r:MRule:=RmO g44_E g44_B (fun a=>(laws_markDisk_o3e a.1 a.2.1 a.2.2.1 a.2.2.2.1 a.2.2.2.2).bind fun r=>if r.1.length = a.1.length ∧ r.2.1.length = a.2.1.length then some ((fixLen a.1 r.1),(fixLen a.2.1 r.2.1),r.2.2) else none) g44_O
theorem g44_ok0:MRuleOk Tryz.prog 26 2 (RmO g44_E g44_B (fun a=>laws_markDisk_o3e a.1 a.2.1 a.2.2.1 a.2.2.2.1 a.2.2.2.2) g44_O):=ok_rmo (S:=g44_S) (tf:=g44_tf) (SysOk.on trivial ⟨g20_ok,g43_ok,trivial⟩) (trE_ok (ks:=[]) Tryz.func26 (by kernel_rfl)) (by rfl) (fun _=>by simp [g44_B]) (fun _=>by simp) fun a=>g44_run a.1 a.2.1 a.2.2.1 a.2.2.2.1 a.2.2.2.2
theorem g44_ok:MRuleOk Tryz.prog 26 2 g44_r:=g44_ok0.weak fun a r hr=>by
  simp only [Option.bind_eq_some_iff] at hr
  obtain ⟨x,h1,h2⟩:=hr
  split at h2
  · rename_i hc
    simp only [Option.some.injEq] at h2
    rw [h1,← h2]
    simp [fixLen,hc]
  · cases h2
@[simp] theorem g44_app (y0:List Str)(y1:List (Int × Str))(y2 y3 y4){n1:Nat}(h1:n1 = y0.length){n2:Nat}(h2:n2 = y1.length):g44_r [(.agg [(ow 0 n1),(ow 1 n2),(.int .i64 y2),(.bool y3)]),(.int .i64 y4)] [(ob 1 y0),(ob 2 y1)] = ((laws_markDisk_o3e y0 y1 y2 y3 y4).bind fun r=>if r.1.length = y0.length ∧ r.2.1.length = y1.length then some ((fixLen y0 r.1),(fixLen y1 r.2.1),r.2.2) else none).map g44_O:=by
  subst h1 h2
  exact RmO_app (enc:=g44_E) (encB:=g44_B) (by intro a b h h2; simp [g44_E,g44_B,Prod.ext_iff] at h h2 ⊢; simp [h,h2]) (y0,y1,y2,y3,y4)
/-! laws.markPageS -/
def g27l1_cb:TC:=(.seq (sq [mo 6 5,mo 7 0,le 8 7,bn 9 .lss (.t 6) (.t 8)] [0,1,5,9] (.cond (.t 9) .skip (.keep (kp [(1,0)] [(0,1)] 1) (.exit 0)))) (.trim [0,1,5] (.seq (.block 1 (sq [mo 12 0,mo 13 5,mo 14 1,ia 15 2 12 13,fa 16 0 15,⟨none,none,(.store 1 (.t 16) (.t 14))⟩] [0,1,5] (sq [mo 17 1,bn 18 .add (.t 17) (ki 1),mo 1 18] [0,1,5] (sq [mo 19 0,mo 20 5,mo 21 1,ca 22 65 [.t 21],ia 23 2 19 20,fa 24 1 23,⟨none,none,(.store 1 (.t 24) (.t 22))⟩] [0,1,5] (.ops [mo 25 1,bn 26 .add (.t 25) (ki 1),mo 1 26]))))) (.trim [0,1,5] (.after (.ops [mo 10 5,bn 11 .add (.t 10) (ki 1),mo 5 11]) (kp [(0,0),(1,0),(5,0)] [(0,1)] 1))))))
def g27l1_c:TC:=.loop [0,1,5] g27l1_cb
def g27_tf:TFn:=⟨(sq [mk 4 (ki 0)] [0,1] (.seq (sq [mk 5 (ki 0)] [0,1,5] (.block 0 (.keep (kp [(0,0),(1,0),(5,0)] [(0,1)] 1) g27l1_c))) (.trim [1] (.seq (.ops [mo 27 1,mo 4 27]) (.keep (kp [(4,0)] [(0,1)] 1) .ret))))),[.t 4]⟩
abbrev g27_S:=Sys.on [(65,g76_r)] []
@[reducible,simp] def g27l1_F:((List (Int × Str)) × Int) → Out:=(fun t=>(.ext 0,[(1,(.int .i64 t.2))],[(ob 2 t.1)]))
def laws_markPageS_o2a_l1_b (v1:List (Int × Str)) (v2:Int) (v3:Int):Option (((List (Int × Str)) × Int × Int) ⊕ ((List (Int × Str)) × Int)):=if v3 < ((v1.length:Nat):Int) then if 0 ≤ v3 ∧ v3 < ((v1.length:Nat):Int) then (v1[(v3).toNat]?).bind fun x4=>(laws_markText ((IntKind.i64.wrap (v2 + 1)))).bind fun r5=>if 0 ≤ v3 ∧ v3 < ((v1.length:Nat):Int) then (((v1.set (v3).toNat (v2,x4.2)))[(v3).toNat]?).bind fun x6=>some (.inl ((((v1.set (v3).toNat (v2,x4.2))).set (v3).toNat (x6.1,r5)),(IntKind.i64.wrap ((IntKind.i64.wrap (v2 + 1)) + 1)),(IntKind.i64.wrap (v3 + 1)))) else none else none else some (.inr (v1,v2))
theorem g27l1_b_eq  (v1:List (Int × Str)) (v2:Int) (v3:Int):X g27_S g27l1_cb (keepEnv [0,1,5] [(0,(ow 0 v1.length)),(1,(.int .i64 v2)),(5,(.int .i64 v3))]) [(ob 2 v1)] = (laws_markPageS_o2a_l1_b v1 v2 v3).map (Sum.elim (fun s=>(TX.nrm,[(0,(ow 0 s.1.length)),(1,(.int .i64 s.2.1)),(5,(.int .i64 s.2.2))],[(ob 2 s.1)])) g27l1_F):=by
  simp (maxSteps:=2000000) (maxDischargeDepth:=8) -implicitDefEqProofs [g27l1_cb,laws_markPageS_o2a_l1_b] <;> (try simp only [map_to_bind,some_elim,g27l1_F])
def laws_markPageS_o2a_l1  (s:(List (Int × Str)) × Int × Int):Option ((List (Int × Str)) × Int):=loopO (fun s=>laws_markPageS_o2a_l1_b  s.1 s.2.1 s.2.2) s
@[simp] theorem g27l1_eq (y0:List (Int × Str))(y1 y2){n1:Nat}(h1:n1 = y0.length):X g27_S g27l1_c [(0,(ow 0 n1)),(1,(.int .i64 y1)),(5,(.int .i64 y2))] [(ob 2 y0)] = (laws_markPageS_o2a_l1  (y0,y1,y2)).map g27l1_F:=by
  subst h1
  exact loop_X _ _ _ _ (by intro r; first | (simp; done) | (rcases r with r | r <;> simp; done) | (rcases r with r | r | r <;> simp; done) | (rcases r with r | r | r | r <;> simp)) (fun s=>g27l1_b_eq   s.1 s.2.1 s.2.2) (y0,y1,y2)
def laws_markPageS_o2a (a1:List (Int × Str)) (a2:Int):Option ((List (Int × Str)) × Int):=(laws_markPageS_o2a_l1 ((a1,a2,0))).bind fun r7=>some (r7.1,r7.2)
@[simp] def g27_O:((List (Int × Str)) × Int) → TV × List Blk:=fun r=>((.int .i64 r.2),[(ob 2 r.1)])
abbrev g27_T:=(List (Int × Str)) × Int
def g27_E (a:g27_T):List TV:=[(ow 0 a.1.length),(.int .i64 a.2)]
def g27_B (a:g27_T):List Blk:=[(ob 2 a.1)]
theorem g27_run (a1:List (Int × Str)) (a2:Int) :callFn (X g27_S) g27_tf (g27_E (a1,a2)) (g27_B (a1,a2)) = (laws_markPageS_o2a a1 a2).map g27_O:=by
  rw [callFn_eq]
  simp (maxSteps:=2000000) (maxDischargeDepth:=8) -implicitDefEqProofs [g27_tf,laws_markPageS_o2a,g27_E,g27_B] <;> (try simp only [map_to_bind,some_elim,g27_O])
def g27_r:MRule:=RmO g27_E g27_B (fun a=>(laws_markPageS_o2a a.1 a.2).bind fun r=>if r.1.length = a.1.length then some ((fixLen a.1 r.1),r.2) else none) g27_O
theorem g27_ok0:MRuleOk Tryz.prog 27 1 (RmO g27_E g27_B (fun a=>laws_markPageS_o2a a.1 a.2) g27_O):=ok_rmo (S:=g27_S) (tf:=g27_tf) (SysOk.on ⟨g76_ok,trivial⟩ trivial) (trE_ok (ks:=[[0,1,5]]) Tryz.func27 (by kernel_rfl)) (by rfl) (fun _=>by simp [g27_B]) (fun _=>by simp) fun a=>g27_run a.1 a.2
theorem g27_ok:MRuleOk Tryz.prog 27 1 g27_r:=g27_ok0.weak fun a r hr=>by
  simp only [Option.bind_eq_some_iff] at hr
  obtain ⟨x,h1,h2⟩:=hr
  split at h2
  · rename_i hc
    simp only [Option.some.injEq] at h2
    rw [h1,← h2]
    simp [fixLen,hc]
  · cases h2
@[simp] theorem g27_app (y0:List (Int × Str))(y1){n1:Nat}(h1:n1 = y0.length):g27_r [(ow 0 n1),(.int .i64 y1)] [(ob 2 y0)] = ((laws_markPageS_o2a y0 y1).bind fun r=>if r.1.length = y0.length then some ((fixLen y0 r.1),r.2) else none).map g27_O:=by
  subst h1
  exact RmO_app (enc:=g27_E) (encB:=g27_B) (by intro a b h h2; simp [g27_E,g27_B,Prod.ext_iff] at h h2 ⊢; simp [h,h2]) (y0,y1)
/-! laws.markPager -/
def g28_tf:TFn:=⟨(sq [bx 2 0,mk 4 (ki 0)] [1,2] (sq [fa 5 0 2,ln 6 4 5,mo 7 1,oo 8 (.callM 26 0 [0,1] [.t 6,.t 7]),mo 1 8] [1,2] (sq [fa 9 10 2,ld 10 9,mo 11 1,oo 12 (.callM 27 0 [2] [.t 10,.t 11]),mo 1 12] [1,2] (sq [fa 13 11 2,ld 14 13,mo 15 1,oo 16 (.callM 27 0 [3] [.t 14,.t 15]),mo 1 16] [1] (.seq (.ops [mo 17 1,mo 4 17]) (.keep (kp [(4,0)] [(0,1),(1,1),(2,1),(3,1)] 4) .ret)))))),[.t 4]⟩
abbrev g28_S:=Sys.on [] [((26,0),(2,g44_r)),((27,0),(1,g27_r))]
def laws_markPager_o71 (a1:List Str) (a2:List (Int × Str)) (a3:Int) (a4:Bool) (a5:Int) (a6:Int) (a7:Int) (a8:Int) (a9:Int) (a10:Int) (a11:List (Int × Str)) (a12:List (Int × Str)) (a13:Int):Option (List Str × (List (Int × Str)) × (List (Int × Str)) × (List (Int × Str)) × Int):=(laws_markDisk_o3e a1 a2 a3 a4 a13).bind fun r1=>if r1.1.length = a1.length ∧ r1.2.1.length = a2.length then (laws_markPageS_o2a a11 r1.2.2).bind fun r2=>if r2.1.length = a11.length then (laws_markPageS_o2a a12 r2.2).bind fun r3=>if r3.1.length = a12.length then some ((fixLen a1 r1.1),(fixLen a2 r1.2.1),(fixLen a11 r2.1),(fixLen a12 r3.1),r3.2) else none else none else none
@[simp] def g28_O:(List Str × (List (Int × Str)) × (List (Int × Str)) × (List (Int × Str)) × Int) → TV × List Blk:=fun r=>((.int .i64 r.2.2.2.2),[(ob 1 r.1),(ob 2 r.2.1),(ob 2 r.2.2.1),(ob 2 r.2.2.2.1)])
abbrev g28_T:=List Str × (List (Int × Str)) × Int × Bool × Int × Int × Int × Int × Int × Int × (List (Int × Str)) × (List (Int × Str)) × Int
def g28_E (a:g28_T):List TV:=[(.agg [(ow 0 a.1.length),(ow 1 a.2.1.length),(.int .i64 a.2.2.1),(.bool a.2.2.2.1),(.int .i64 a.2.2.2.2.1),(.int .i64 a.2.2.2.2.2.1),(.int .i64 a.2.2.2.2.2.2.1),(.int .i64 a.2.2.2.2.2.2.2.1),(.int .i64 a.2.2.2.2.2.2.2.2.1),(.int .i64 a.2.2.2.2.2.2.2.2.2.1),(ow 2 a.2.2.2.2.2.2.2.2.2.2.1.length),(ow 3 a.2.2.2.2.2.2.2.2.2.2.2.1.length)]),(.int .i64 a.2.2.2.2.2.2.2.2.2.2.2.2)]
def g28_B (a:g28_T):List Blk:=[(ob 1 a.1),(ob 2 a.2.1),(ob 2 a.2.2.2.2.2.2.2.2.2.2.1),(ob 2 a.2.2.2.2.2.2.2.2.2.2.2.1)]
theorem g28_run (a1:List Str) (a2:List (Int × Str)) (a3:Int) (a4:Bool) (a5:Int) (a6:Int) (a7:Int) (a8:Int) (a9:Int) (a10:Int) (a11:List (Int × Str)) (a12:List (Int × Str)) (a13:Int) :callFn (X g28_S) g28_tf (g28_E (a1,a2,a3,a4,a5,a6,a7,a8,a9,a10,a11,a12,a13)) (g28_B (a1,a2,a3,a4,a5,a6,a7,a8,a9,a10,a11,a12,a13)) = (laws_markPager_o71 a1 a2 a3 a4 a5 a6 a7 a8 a9 a10 a11 a12 a13).map g28_O:=by
  rw [callFn_eq]
  simp (maxSteps:=2000000) (maxDischargeDepth:=8) -implicitDefEqProofs [g28_tf,laws_markPager_o71,g28_E,g28_B] <;> (try simp only [map_to_bind,some_elim,g28_O])
def g28_r:MRule:=RmO g28_E g28_B (fun a=>(laws_markPager_o71 a.1 a.2.1 a.2.2.1 a.2.2.2.1 a.2.2.2.2.1 a.2.2.2.2.2.1 a.2.2.2.2.2.2.1 a.2.2.2.2.2.2.2.1 a.2.2.2.2.2.2.2.2.1 a.2.2.2.2.2.2.2.2.2.1 a.2.2.2.2.2.2.2.2.2.2.1 a.2.2.2.2.2.2.2.2.2.2.2.1 a.2.2.2.2.2.2.2.2.2.2.2.2).bind fun r=>if r.1.length = a.1.length ∧ r.2.1.length = a.2.1.length ∧ r.2.2.1.length = a.2.2.2.2.2.2.2.2.2.2.1.length ∧ r.2.2.2.1.length = a.2.2.2.2.2.2.2.2.2.2.2.1.length then some ((fixLen a.1 r.1),(fixLen a.2.1 r.2.1),(fixLen a.2.2.2.2.2.2.2.2.2.2.1 r.2.2.1),(fixLen a.2.2.2.2.2.2.2.2.2.2.2.1 r.2.2.2.1),r.2.2.2.2) else none) g28_O
theorem g28_ok0:MRuleOk Tryz.prog 9 4 (RmO g28_E g28_B (fun a=>laws_markPager_o71 a.1 a.2.1 a.2.2.1 a.2.2.2.1 a.2.2.2.2.1 a.2.2.2.2.2.1 a.2.2.2.2.2.2.1 a.2.2.2.2.2.2.2.1 a.2.2.2.2.2.2.2.2.1 a.2.2.2.2.2.2.2.2.2.1 a.2.2.2.2.2.2.2.2.2.2.1 a.2.2.2.2.2.2.2.2.2.2.2.1 a.2.2.2.2.2.2.2.2.2.2.2.2) g28_O):=ok_rmo (S:=g28_S) (tf:=g28_tf) (SysOk.on trivial ⟨g44_ok,g27_ok,trivial⟩) (trE_ok (ks:=[]) Tryz.func9 (by kernel_rfl)) (by rfl) (fun _=>by simp [g28_B]) (fun _=>by simp) fun a=>g28_run a.1 a.2.1 a.2.2.1 a.2.2.2.1 a.2.2.2.2.1 a.2.2.2.2.2.1 a.2.2.2.2.2.2.1 a.2.2.2.2.2.2.2.1 a.2.2.2.2.2.2.2.2.1 a.2.2.2.2.2.2.2.2.2.1 a.2.2.2.2.2.2.2.2.2.2.1 a.2.2.2.2.2.2.2.2.2.2.2.1 a.2.2.2.2.2.2.2.2.2.2.2.2
theorem g28_ok:MRuleOk Tryz.prog 9 4 g28_r:=g28_ok0.weak fun a r hr=>by
  simp only [Option.bind_eq_some_iff] at hr
  obtain ⟨x,h1,h2⟩:=hr
  split at h2
  · rename_i hc
    simp only [Option.some.injEq] at h2
    rw [h1,← h2]
    simp [fixLen,hc]
  · cases h2
@[simp] theorem g28_app (y0:List Str)(y1:List (Int × Str))(y2 y3 y4 y5 y6 y7 y8 y9)(y10:List (Int × Str))(y11:List (Int × Str))(y12){n1:Nat}(h1:n1 = y0.length){n2:Nat}(h2:n2 = y1.length){n3:Nat}(h3:n3 = y10.length){n4:Nat}(h4:n4 = y11.length):g28_r [(.agg [(ow 0 n1),(ow 1 n2),(.int .i64 y2),(.bool y3),(.int .i64 y4),(.int .i64 y5),(.int .i64 y6),(.int .i64 y7),(.int .i64 y8),(.int .i64 y9),(ow 2 n3),(ow 3 n4)]),(.int .i64 y12)] [(ob 1 y0),(ob 2 y1),(ob 2 y10),(ob 2 y11)] = ((laws_markPager_o71 y0 y1 y2 y3 y4 y5 y6 y7 y8 y9 y10 y11 y12).bind fun r=>if r.1.length = y0.length ∧ r.2.1.length = y1.length ∧ r.2.2.1.length = y10.length ∧ r.2.2.2.1.length = y11.length then some ((fixLen y0 r.1),(fixLen y1 r.2.1),(fixLen y10 r.2.2.1),(fixLen y11 r.2.2.2.1),r.2.2.2.2) else none).map g28_O:=by
  subst h1 h2 h3 h4
  exact RmO_app (enc:=g28_E) (encB:=g28_B) (by intro a b h h2; simp [g28_E,g28_B,Prod.ext_iff] at h h2 ⊢; simp [h,h2]) (y0,y1,y2,y3,y4,y5,y6,y7,y8,y9,y10,y11,y12)
/-! laws.heldStringS -/
def g48l1_cb:TC:=(.seq (sq [mo 6 5,mo 7 0,le 8 7,bn 9 .lss (.t 6) (.t 8)] [0,1,5,9] (.cond (.t 9) .skip (.keep (kp [(1,0)] [] 0) (.exit 0)))) (.trim [0,1,5] (.seq (.block 1 (.seq (.seq (.draw [([],mo 12 0),([],mo 13 5),([0,1],ia 14 1 12 13),([0,1,2],ld 15 14),([],mo 16 1),([4],ca 17 65 [.t 16])] [oo 18 (.bin .str .neq (.t 15) (.t 17))]) (.trim [0,1,5,18] (.cond (.t 18) (.seq (.ops [mk 4 (ki (-1))]) (.keep (kp [(4,0)] [] 0) .ret)) .skip))) (.trim [0,1,5] (.ops [mo 19 1,bn 20 .add (.t 19) (ki 1),mo 1 20])))) (.trim [0,1,5] (.after (.ops [mo 10 5,bn 11 .add (.t 10) (ki 1),mo 5 11]) (kp [(0,0),(1,0),(5,0)] [] 0))))))
def g48l1_c:TC:=.loop [0,1,5] g48l1_cb
def g48_tf:TFn:=⟨(sq [mk 4 (ki 0)] [0,1] (.seq (sq [mk 5 (ki 0)] [0,1,5] (.block 0 (.keep (kp [(0,0),(1,0),(5,0)] [] 0) g48l1_c))) (.trim [1] (.seq (.ops [mo 21 1,mo 4 21]) (.keep (kp [(4,0)] [] 0) .ret))))),[.t 4]⟩
abbrev g48_S:=Sys.on [(65,g76_r)] []
@[reducible,simp] def g48l1_F:((Int) ⊕ (Int)) → Out:=(Sum.elim (fun t=>(.ext 0,[(1,(.int .i64 t))],[])) (fun t=>(.ret,[(4,(.int .i64 t))],[])))
def laws_heldStringS_l1_b (v1:List Str) (v2:Int) (v3:Int):Option ((Int × Int) ⊕ ((Int) ⊕ (Int))):=if v3 < (v1.length:Int) then if 0 ≤ v3 then (v1[(v3).toNat]?).bind fun x4=>(laws_markText v2).bind fun r5=>if ¬(x4 = r5) then some (.inr (.inr ((-1)))) else some (.inl ((IntKind.i64.wrap (v2 + 1)),(IntKind.i64.wrap (v3 + 1)))) else none else some (.inr (.inl v2))
theorem g48l1_b_eq  (v1:List Str) (v2:Int) (v3:Int):X g48_S g48l1_cb (keepEnv [0,1,5] [(0,(.vs (rows v1))),(1,(.int .i64 v2)),(5,(.int .i64 v3))]) [] = (laws_heldStringS_l1_b v1 v2 v3).map (Sum.elim (fun s=>(TX.nrm,[(0,(.vs (rows v1))),(1,(.int .i64 s.1)),(5,(.int .i64 s.2))],[])) g48l1_F):=by
  simp (maxSteps:=2000000) (maxDischargeDepth:=8) -implicitDefEqProofs [g48l1_cb,laws_heldStringS_l1_b] <;> (try simp only [map_to_bind,some_elim,g48l1_F])
def laws_heldStringS_l1 (v1:List Str) (s:Int × Int):Option ((Int) ⊕ (Int)):=loopO (fun s=>laws_heldStringS_l1_b v1 s.1 s.2) s
@[simp] theorem g48l1_eq (y0 y1 y2):X g48_S g48l1_c [(0,(.vs (rows y0))),(1,(.int .i64 y1)),(5,(.int .i64 y2))] [] = (laws_heldStringS_l1 y0 (y1,y2)).map g48l1_F:=by
  exact loop_X _ _ _ _ (by intro r; first | (simp; done) | (rcases r with r | r <;> simp; done) | (rcases r with r | r | r <;> simp; done) | (rcases r with r | r | r | r <;> simp)) (fun s=>g48l1_b_eq  y0 s.1 s.2) (y1,y2)
def laws_heldStringS (a_a:List Str) (a_k:Int):Option (Int):=(laws_heldStringS_l1 a_a ((a_k,0))).bind fun r6=>Sum.elim (fun u7=>some u7) (fun u8=>some u8) r6
@[simp] def g48_O:Int → TV × List Blk:=fun r=>((.int .i64 r),[])
def g48_E (a:List Str × Int):List TV:=[(.vs (rows a.1)),(.int .i64 a.2)]
theorem g48_run (a_a:List Str) (a_k:Int) :callFn (X g48_S) g48_tf (g48_E (a_a,a_k)) [] = (laws_heldStringS a_a a_k).map g48_O:=by
  rw [callFn_eq]
  simp (maxSteps:=2000000) (maxDischargeDepth:=8) -implicitDefEqProofs [g48_tf,laws_heldStringS,g48_E] <;> (try simp only [map_to_bind,some_elim,g48_O])
def g48_r:Rule:=RlO g48_E (fun a=>laws_heldStringS a.1 a.2) g48_O
theorem g48_ok:RuleOk Tryz.prog 66 g48_r:=ok_rlo (S:=g48_S) (tf:=g48_tf) (SysOk.on ⟨g76_ok,trivial⟩ trivial) (trE_ok (ks:=[[0,1,5],[6]]) Tryz.func66 (by kernel_rfl)) fun a=>g48_run a.1 a.2
@[simp] theorem g48_app (y0 y1):g48_r [(.vs (rows y0)),(.int .i64 y1)] = (laws_heldStringS y0 y1).map g48_O :=
  RlO_app (enc:=g48_E) (by intro a b h; simp [g48_E,Prod.ext_iff] at h ⊢; simp [h]) (y0,y1)
/-! laws.heldPutS -/
def g77l1_cb:TC:=(.seq (sq [mo 6 5,mo 7 0,le 8 7,bn 9 .lss (.t 6) (.t 8)] [0,1,5,9] (.cond (.t 9) .skip (.keep (kp [(1,0)] [] 0) (.exit 0)))) (.trim [0,1,5] (.seq (.block 1 (.seq (sq [mo 12 0,mo 13 5,ia 14 2 12 13,fa 15 0 14,ld 16 15,mo 17 1,bn 18 .neq (.t 16) (.t 17)] [0,1,5,18] (.cond (.t 18) (.seq (.ops [mk 4 (ki (-1))]) (.keep (kp [(4,0)] [] 0) .ret)) .skip)) (.trim [0,1,5] (sq [mo 19 1,bn 20 .add (.t 19) (ki 1),mo 1 20] [0,1,5] (.seq (.seq (.draw [([],mo 21 0),([],mo 22 5),([0,1],ia 23 2 21 22),([0,1,2],fa 24 1 23),([0,1,2,3],ld 25 24),([],mo 26 1),([5],ca 27 65 [.t 26])] [oo 28 (.bin .str .neq (.t 25) (.t 27))]) (.trim [0,1,5,28] (.cond (.t 28) (.seq (.ops [mk 4 (ki (-1))]) (.keep (kp [(4,0)] [] 0) .ret)) .skip))) (.trim [0,1,5] (.ops [mo 29 1,bn 30 .add (.t 29) (ki 1),mo 1 30]))))))) (.trim [0,1,5] (.after (.ops [mo 10 5,bn 11 .add (.t 10) (ki 1),mo 5 11]) (kp [(0,0),(1,0),(5,0)] [] 0))))))
def g77l1_c:TC:=.loop [0,1,5] g77l1_cb
def g77_tf:TFn:=⟨(sq [mk 4 (ki 0)] [0,1] (.seq (sq [mk 5 (ki 0)] [0,1,5] (.block 0 (.keep (kp [(0,0),(1,0),(5,0)] [] 0) g77l1_c))) (.trim [1] (.seq (.ops [mo 31 1,mo 4 31]) (.keep (kp [(4,0)] [] 0) .ret))))),[.t 4]⟩
abbrev g77_S:=Sys.on [(65,g76_r)] []
@[reducible,simp] def g77l1_F:((Int) ⊕ (Int)) → Out:=(Sum.elim (fun t=>(.ext 0,[(1,(.int .i64 t))],[])) (fun t=>(.ret,[(4,(.int .i64 t))],[])))
def laws_heldPutS_l1_b (v1:List (Int × Str)) (v2:Int) (v3:Int):Option ((Int × Int) ⊕ ((Int) ⊕ (Int))):=if v3 < (v1.length:Int) then if 0 ≤ v3 then (v1[(v3).toNat]?).bind fun x4=>if ¬(x4.1 = v2) then some (.inr (.inr ((-1)))) else if 0 ≤ v3 then (v1[(v3).toNat]?).bind fun x5=>(laws_markText ((IntKind.i64.wrap (v2 + 1)))).bind fun r6=>if ¬(x5.2 = r6) then some (.inr (.inr ((-1)))) else some (.inl ((IntKind.i64.wrap ((IntKind.i64.wrap (v2 + 1)) + 1)),(IntKind.i64.wrap (v3 + 1)))) else none else none else some (.inr (.inl v2))
theorem g77l1_b_eq  (v1:List (Int × Str)) (v2:Int) (v3:Int):X g77_S g77l1_cb (keepEnv [0,1,5] [(0,(.vs (rows v1))),(1,(.int .i64 v2)),(5,(.int .i64 v3))]) [] = (laws_heldPutS_l1_b v1 v2 v3).map (Sum.elim (fun s=>(TX.nrm,[(0,(.vs (rows v1))),(1,(.int .i64 s.1)),(5,(.int .i64 s.2))],[])) g77l1_F):=by
  simp (maxSteps:=2000000) (maxDischargeDepth:=8) -implicitDefEqProofs [g77l1_cb,laws_heldPutS_l1_b] <;> (try simp only [map_to_bind,some_elim,g77l1_F])
def laws_heldPutS_l1 (v1:List (Int × Str)) (s:Int × Int):Option ((Int) ⊕ (Int)):=loopO (fun s=>laws_heldPutS_l1_b v1 s.1 s.2) s
@[simp] theorem g77l1_eq (y0 y1 y2):X g77_S g77l1_c [(0,(.vs (rows y0))),(1,(.int .i64 y1)),(5,(.int .i64 y2))] [] = (laws_heldPutS_l1 y0 (y1,y2)).map g77l1_F:=by
  exact loop_X _ _ _ _ (by intro r; first | (simp; done) | (rcases r with r | r <;> simp; done) | (rcases r with r | r | r <;> simp; done) | (rcases r with r | r | r | r <;> simp)) (fun s=>g77l1_b_eq  y0 s.1 s.2) (y1,y2)
def laws_heldPutS (a_a:List (Int × Str)) (a_k:Int):Option (Int):=(laws_heldPutS_l1 a_a ((a_k,0))).bind fun r7=>Sum.elim (fun u8=>some u8) (fun u9=>some u9) r7
@[simp] def g77_O:Int → TV × List Blk:=fun r=>((.int .i64 r),[])
def g77_E (a:(List (Int × Str)) × Int):List TV:=[(.vs (rows a.1)),(.int .i64 a.2)]
theorem g77_run (a_a:List (Int × Str)) (a_k:Int) :callFn (X g77_S) g77_tf (g77_E (a_a,a_k)) [] = (laws_heldPutS a_a a_k).map g77_O:=by
  rw [callFn_eq]
  simp (maxSteps:=2000000) (maxDischargeDepth:=8) -implicitDefEqProofs [g77_tf,laws_heldPutS,g77_E] <;> (try simp only [map_to_bind,some_elim,g77_O])
def g77_r:Rule:=RlO g77_E (fun a=>laws_heldPutS a.1 a.2) g77_O
theorem g77_ok:RuleOk Tryz.prog 67 g77_r:=ok_rlo (S:=g77_S) (tf:=g77_tf) (SysOk.on ⟨g76_ok,trivial⟩ trivial) (trE_ok (ks:=[[0,1,5],[7]]) Tryz.func67 (by kernel_rfl)) fun a=>g77_run a.1 a.2
@[simp] theorem g77_app (y0 y1):g77_r [(.vs (rows y0)),(.int .i64 y1)] = (laws_heldPutS y0 y1).map g77_O :=
  RlO_app (enc:=g77_E) (by intro a b h; simp [g77_E,Prod.ext_iff] at h ⊢; simp [h]) (y0,y1)
/-! laws.heldDisk -/
def g78_tf:TFn:=⟨(sq [bx 2 0,mk 4 (ki 0)] [1,2] (sq [fa 5 0 2,ld 6 5,mo 7 1,ca 8 66 [.t 6,.t 7],mo 1 8] [1,2] (.seq (sq [mo 9 1,bn 10 .lss (.t 9) (ki 0)] [1,2,10] (.cond (.t 10) (.seq (.ops [mk 4 (ki (-1))]) (.keep (kp [(4,0)] [] 0) .ret)) .skip)) (.trim [1,2] (sq [fa 11 1 2,ld 12 11,mo 13 1,ca 14 67 [.t 12,.t 13],mo 1 14] [1] (.seq (sq [mo 15 1,bn 16 .lss (.t 15) (ki 0)] [1,16] (.cond (.t 16) (.seq (.ops [mk 4 (ki (-1))]) (.keep (kp [(4,0)] [] 0) .ret)) .skip)) (.trim [1] (.seq (.ops [mo 17 1,mo 4 17]) (.keep (kp [(4,0)] [] 0) .ret))))))))),[.t 4]⟩
abbrev g78_S:=Sys.on [(66,g48_r),(67,g77_r)] []
def laws_heldDisk (a_a:K0) (a_k:Int):Option (Int):=(laws_heldStringS a_a.1 a_k).bind fun r1=>if r1 < 0 then some ((-1)) else (laws_heldPutS a_a.2.1 r1).bind fun r2=>if r2 < 0 then some ((-1)) else some r2
@[simp] def g78_O:Int → TV × List Blk:=fun r=>((.int .i64 r),[])
def g78_E (a:K0 × Int):List TV:=[(.agg [(.vs (rows a.1.1)),(.vs (rows a.1.2.1)),(.int .i64 a.1.2.2.1),(.bool a.1.2.2.2)]),(.int .i64 a.2)]
theorem g78_run (a_a:K0) (a_k:Int) :callFn (X g78_S) g78_tf (g78_E (a_a,a_k)) [] = (laws_heldDisk a_a a_k).map g78_O:=by
  rw [callFn_eq]
  simp (maxSteps:=2000000) (maxDischargeDepth:=8) -implicitDefEqProofs [g78_tf,laws_heldDisk,g78_E] <;> (try simp only [map_to_bind,some_elim,g78_O])
def g78_r:Rule:=RlO g78_E (fun a=>laws_heldDisk a.1 a.2) g78_O
theorem g78_ok:RuleOk Tryz.prog 28 g78_r:=ok_rlo (S:=g78_S) (tf:=g78_tf) (SysOk.on ⟨g48_ok,g77_ok,trivial⟩ trivial) (trE_ok (ks:=[]) Tryz.func28 (by kernel_rfl)) fun a=>g78_run a.1 a.2
@[simp] theorem g78_app (y0 y1 y2 y3 y4):g78_r [(.agg [(.vs (rows y0)),(.vs (rows y1)),(.int .i64 y2),(.bool y3)]),(.int .i64 y4)] = (laws_heldDisk ((y0,y1,y2,y3)) y4).map g78_O :=
  RlO_app (enc:=g78_E) (by intro a b h; simp [g78_E,Prod.ext_iff] at h ⊢; simp [h]) ((y0,y1,y2,y3),y4)
/-! laws.heldPageS -/
def g69l1_cb:TC:=(.seq (sq [mo 6 5,mo 7 0,le 8 7,bn 9 .lss (.t 6) (.t 8)] [0,1,5,9] (.cond (.t 9) .skip (.keep (kp [(1,0)] [] 0) (.exit 0)))) (.trim [0,1,5] (.seq (.block 1 (.seq (sq [mo 12 0,mo 13 5,ia 14 2 12 13,fa 15 0 14,ld 16 15,mo 17 1,bn 18 .neq (.t 16) (.t 17)] [0,1,5,18] (.cond (.t 18) (.seq (.ops [mk 4 (ki (-1))]) (.keep (kp [(4,0)] [] 0) .ret)) .skip)) (.trim [0,1,5] (sq [mo 19 1,bn 20 .add (.t 19) (ki 1),mo 1 20] [0,1,5] (.seq (.seq (.draw [([],mo 21 0),([],mo 22 5),([0,1],ia 23 2 21 22),([0,1,2],fa 24 1 23),([0,1,2,3],ld 25 24),([],mo 26 1),([5],ca 27 65 [.t 26])] [oo 28 (.bin .str .neq (.t 25) (.t 27))]) (.trim [0,1,5,28] (.cond (.t 28) (.seq (.ops [mk 4 (ki (-1))]) (.keep (kp [(4,0)] [] 0) .ret)) .skip))) (.trim [0,1,5] (.ops [mo 29 1,bn 30 .add (.t 29) (ki 1),mo 1 30]))))))) (.trim [0,1,5] (.after (.ops [mo 10 5,bn 11 .add (.t 10) (ki 1),mo 5 11]) (kp [(0,0),(1,0),(5,0)] [] 0))))))
def g69l1_c:TC:=.loop [0,1,5] g69l1_cb
def g69_tf:TFn:=⟨(sq [mk 4 (ki 0)] [0,1] (.seq (sq [mk 5 (ki 0)] [0,1,5] (.block 0 (.keep (kp [(0,0),(1,0),(5,0)] [] 0) g69l1_c))) (.trim [1] (.seq (.ops [mo 31 1,mo 4 31]) (.keep (kp [(4,0)] [] 0) .ret))))),[.t 4]⟩
abbrev g69_S:=Sys.on [(65,g76_r)] []
@[reducible,simp] def g69l1_F:((Int) ⊕ (Int)) → Out:=(Sum.elim (fun t=>(.ext 0,[(1,(.int .i64 t))],[])) (fun t=>(.ret,[(4,(.int .i64 t))],[])))
def laws_heldPageS_l1_b (v1:List (Int × Str)) (v2:Int) (v3:Int):Option ((Int × Int) ⊕ ((Int) ⊕ (Int))):=if v3 < (v1.length:Int) then if 0 ≤ v3 then (v1[(v3).toNat]?).bind fun x4=>if ¬(x4.1 = v2) then some (.inr (.inr ((-1)))) else if 0 ≤ v3 then (v1[(v3).toNat]?).bind fun x5=>(laws_markText ((IntKind.i64.wrap (v2 + 1)))).bind fun r6=>if ¬(x5.2 = r6) then some (.inr (.inr ((-1)))) else some (.inl ((IntKind.i64.wrap ((IntKind.i64.wrap (v2 + 1)) + 1)),(IntKind.i64.wrap (v3 + 1)))) else none else none else some (.inr (.inl v2))
theorem g69l1_b_eq  (v1:List (Int × Str)) (v2:Int) (v3:Int):X g69_S g69l1_cb (keepEnv [0,1,5] [(0,(.vs (rows v1))),(1,(.int .i64 v2)),(5,(.int .i64 v3))]) [] = (laws_heldPageS_l1_b v1 v2 v3).map (Sum.elim (fun s=>(TX.nrm,[(0,(.vs (rows v1))),(1,(.int .i64 s.1)),(5,(.int .i64 s.2))],[])) g69l1_F):=by
  simp (maxSteps:=2000000) (maxDischargeDepth:=8) -implicitDefEqProofs [g69l1_cb,laws_heldPageS_l1_b] <;> (try simp only [map_to_bind,some_elim,g69l1_F])
def laws_heldPageS_l1 (v1:List (Int × Str)) (s:Int × Int):Option ((Int) ⊕ (Int)):=loopO (fun s=>laws_heldPageS_l1_b v1 s.1 s.2) s
@[simp] theorem g69l1_eq (y0 y1 y2):X g69_S g69l1_c [(0,(.vs (rows y0))),(1,(.int .i64 y1)),(5,(.int .i64 y2))] [] = (laws_heldPageS_l1 y0 (y1,y2)).map g69l1_F:=by
  exact loop_X _ _ _ _ (by intro r; first | (simp; done) | (rcases r with r | r <;> simp; done) | (rcases r with r | r | r <;> simp; done) | (rcases r with r | r | r | r <;> simp)) (fun s=>g69l1_b_eq  y0 s.1 s.2) (y1,y2)
def laws_heldPageS (a_a:List (Int × Str)) (a_k:Int):Option (Int):=(laws_heldPageS_l1 a_a ((a_k,0))).bind fun r7=>Sum.elim (fun u8=>some u8) (fun u9=>some u9) r7
@[simp] def g69_O:Int → TV × List Blk:=fun r=>((.int .i64 r),[])
def g69_E (a:(List (Int × Str)) × Int):List TV:=[(.vs (rows a.1)),(.int .i64 a.2)]
theorem g69_run (a_a:List (Int × Str)) (a_k:Int) :callFn (X g69_S) g69_tf (g69_E (a_a,a_k)) [] = (laws_heldPageS a_a a_k).map g69_O:=by
  rw [callFn_eq]
  simp (maxSteps:=2000000) (maxDischargeDepth:=8) -implicitDefEqProofs [g69_tf,laws_heldPageS,g69_E] <;> (try simp only [map_to_bind,some_elim,g69_O])
def g69_r:Rule:=RlO g69_E (fun a=>laws_heldPageS a.1 a.2) g69_O
theorem g69_ok:RuleOk Tryz.prog 29 g69_r:=ok_rlo (S:=g69_S) (tf:=g69_tf) (SysOk.on ⟨g76_ok,trivial⟩ trivial) (trE_ok (ks:=[[0,1,5],[7]]) Tryz.func29 (by kernel_rfl)) fun a=>g69_run a.1 a.2
@[simp] theorem g69_app (y0 y1):g69_r [(.vs (rows y0)),(.int .i64 y1)] = (laws_heldPageS y0 y1).map g69_O :=
  RlO_app (enc:=g69_E) (by intro a b h; simp [g69_E,Prod.ext_iff] at h ⊢; simp [h]) (y0,y1)
/-! laws.heldPager -/
def g70_tf:TFn:=⟨(sq [bx 2 0,mk 4 (ki 0)] [1,2] (sq [fa 5 0 2,ln 6 4 5,mo 7 1,ca 8 28 [.t 6,.t 7],mo 1 8] [1,2] (.seq (sq [mo 9 1,bn 10 .lss (.t 9) (ki 0)] [1,2,10] (.cond (.t 10) (.seq (.ops [mk 4 (ki (-1))]) (.keep (kp [(4,0)] [] 0) .ret)) .skip)) (.trim [1,2] (sq [fa 11 10 2,ld 12 11,mo 13 1,ca 14 29 [.t 12,.t 13],mo 1 14] [1,2] (.seq (sq [mo 15 1,bn 16 .lss (.t 15) (ki 0)] [1,2,16] (.cond (.t 16) (.seq (.ops [mk 4 (ki (-1))]) (.keep (kp [(4,0)] [] 0) .ret)) .skip)) (.trim [1,2] (sq [fa 17 11 2,ld 18 17,mo 19 1,ca 20 29 [.t 18,.t 19],mo 1 20] [1] (.seq (sq [mo 21 1,bn 22 .lss (.t 21) (ki 0)] [1,22] (.cond (.t 22) (.seq (.ops [mk 4 (ki (-1))]) (.keep (kp [(4,0)] [] 0) .ret)) .skip)) (.trim [1] (.seq (.ops [mo 23 1,mo 4 23]) (.keep (kp [(4,0)] [] 0) .ret)))))))))))),[.t 4]⟩
abbrev g70_S:=Sys.on [(28,g78_r),(29,g69_r)] []
def laws_heldPager (a_a:K1) (a_k:Int):Option (Int):=(laws_heldDisk a_a.1 a_k).bind fun r1=>if r1 < 0 then some ((-1)) else (laws_heldPageS a_a.2.2.2.2.1 r1).bind fun r2=>if r2 < 0 then some ((-1)) else (laws_heldPageS a_a.2.2.2.2.2 r2).bind fun r3=>if r3 < 0 then some ((-1)) else some r3
@[simp] def g70_O:Int → TV × List Blk:=fun r=>((.int .i64 r),[])
def g70_E (a:K1 × Int):List TV:=[(.agg [(.vs (rows a.1.1.1)),(.vs (rows a.1.1.2.1)),(.int .i64 a.1.1.2.2.1),(.bool a.1.1.2.2.2),(.int .i64 a.1.2.1.1),(.int .i64 a.1.2.1.2.1),(.int .i64 a.1.2.1.2.2.1),(.int .i64 a.1.2.1.2.2.2),(.int .i64 a.1.2.2.1),(.int .i64 a.1.2.2.2.1),(.vs (rows a.1.2.2.2.2.1)),(.vs (rows a.1.2.2.2.2.2))]),(.int .i64 a.2)]
theorem g70_run (a_a:K1) (a_k:Int) :callFn (X g70_S) g70_tf (g70_E (a_a,a_k)) [] = (laws_heldPager a_a a_k).map g70_O:=by
  rw [callFn_eq]
  simp (maxSteps:=2000000) (maxDischargeDepth:=8) -implicitDefEqProofs [g70_tf,laws_heldPager,g70_E] <;> (try simp only [map_to_bind,some_elim,g70_O])
def g70_r:Rule:=RlO g70_E (fun a=>laws_heldPager a.1 a.2) g70_O
theorem g70_ok:RuleOk Tryz.prog 10 g70_r:=ok_rlo (S:=g70_S) (tf:=g70_tf) (SysOk.on ⟨g78_ok,g69_ok,trivial⟩ trivial) (trE_ok (ks:=[]) Tryz.func10 (by kernel_rfl)) fun a=>g70_run a.1 a.2
@[simp] theorem g70_app (y0 y1 y2 y3 y4 y5 y6 y7 y8 y9 y10 y11 y12):g70_r [(.agg [(.vs (rows y0)),(.vs (rows y1)),(.int .i64 y2),(.bool y3),(.int .i64 y4),(.int .i64 y5),(.int .i64 y6),(.int .i64 y7),(.int .i64 y8),(.int .i64 y9),(.vs (rows y10)),(.vs (rows y11))]),(.int .i64 y12)] = (laws_heldPager (((y0,y1,y2,y3),(y4,y5,y6,y7),y8,y9,y10,y11)) y12).map g70_O :=
  RlO_app (enc:=g70_E) (by intro a b h; simp [g70_E,Prod.ext_iff] at h ⊢; simp [h]) (((y0,y1,y2,y3),(y4,y5,y6,y7),y8,y9,y10,y11),y12)
/-! laws.FnExactCheckpoint -/
def g16_tf:TFn:=⟨(sq [bx 1 0,mk 2 (kb false)] [1] (sq [mk 3 (ki 1048576)] [1,3] (sq [ln 14 12 1,mo 15 3,ca 16 4 [.t 14,.t 15],mo 3 16] [1,3] (.seq (sq [mo 17 3,bn 18 .lss (.t 17) (ki 0)] [1,18] (.cond (.t 18) (.seq (.ops [mk 2 (kb true)]) (.keep (kp [(2,0)] [] 0) .ret)) .skip)) (.trim [1] (sq [ln 20 12 1,ca 21 6 [.t 20],ca 22 5 [.t 21],mo 19 22,oo 23 (.ext (.t 19) 0),oo 24 (.ext (.t 19) 1),oo 4 (.alloc [.nils,.nils,(.int .i64 0),(.bool false),(.int .i64 0),(.int .i64 0),(.int .i64 0),(.int .i64 0),(.int .i64 0),(.int .i64 0),.nils,.nils]),⟨none,none,(.store 12 (.t 4) (.t 23))⟩,mo 5 24] [1,4,5] (sq [ln 25 12 1,ca 26 6 [.t 25],oo 6 (.alloc [.nils,.nils,(.int .i64 0),(.bool false),(.int .i64 0),(.int .i64 0),(.int .i64 0),(.int .i64 0),(.int .i64 0),(.int .i64 0),.nils,.nils]),⟨none,none,(.store 12 (.t 6) (.t 26))⟩] [1,4,5,6] (sq [ln 28 12 6,ca 29 7 [.t 28],mo 27 29,oo 30 (.ext (.t 27) 0),oo 31 (.ext (.t 27) 1),oo 7 (.alloc [.nils,.nils,(.int .i64 0),(.bool false),(.int .i64 0),(.int .i64 0),(.int .i64 0),(.int .i64 0),(.int .i64 0),(.int .i64 0),.nils,.nils]),⟨none,none,(.store 12 (.t 7) (.t 30))⟩,mo 8 31] [1,4,5,6,7,8] (.seq (sq [ln 32 12 7,ln 33 12 4,ca 34 8 [.t 32,.t 33],nt 35 34,mo 36 35,⟨(some 37),(some (36,false)),(.mv (.t 8))⟩,⟨(some 38),(some (36,false)),(.mv (.t 5))⟩,⟨(some 39),(some (36,false)),(.bin .num .neq (.t 37) (.t 38))⟩,pk 40 (.t 36) (kb true) (.t 39)] [1,4,5,6,7,8,40] (.cond (.t 40) (.seq (.ops [mk 2 (kb false)]) (.keep (kp [(2,0)] [] 0) .ret)) .skip)) (.trim [1,4,5,6,7,8] (.seq (.seq (.draw [([],ln 41 12 6),([],ln 42 12 1),([1],ca 43 6 [.t 42])] [ca 44 8 [.t 41,.t 43],nt 45 44]) (.trim [1,4,5,6,7,8,45] (.cond (.t 45) (.seq (.ops [mk 2 (kb false)]) (.keep (kp [(2,0)] [] 0) .ret)) .skip))) (.trim [1,4,5,6,7,8] (sq [mk 9 (ki 1)] [1,4,5,6,7,8,9] (sq [ln 46 12 6,mo 47 9,oo 48 (.callM 9 0 [13,14,15,16] [.t 46,.t 47]),mo 9 48] [1,4,5,7,8,9] (.seq (sq [mo 49 9,bn 50 .lss (.t 49) (ki 0),mo 51 50,⟨(some 52),(some (51,false)),(.load (some 12) (.t 7))⟩,⟨(some 53),(some (51,false)),(.load (some 12) (.t 4))⟩,⟨(some 54),(some (51,false)),(.call 8 [.t 52,.t 53])⟩,⟨(some 55),(some (51,false)),(.un .not (.t 54))⟩,pk 56 (.t 51) (kb true) (.t 55),mo 57 56,⟨(some 58),(some (57,false)),(.mv (.t 8))⟩,⟨(some 59),(some (57,false)),(.mv (.t 5))⟩,⟨(some 60),(some (57,false)),(.bin .num .neq (.t 58) (.t 59))⟩,pk 61 (.t 57) (kb true) (.t 60)] [1,4,5,7,61] (.cond (.t 61) (.seq (.ops [mk 2 (kb false)]) (.keep (kp [(2,0)] [] 0) .ret)) .skip)) (.trim [1,4,5,7] (sq [mk 10 (ki 1)] [1,4,5,7,10] (sq [ln 62 12 7,mo 63 10,oo 64 (.callM 9 0 [19,20,21,22] [.t 62,.t 63]),mo 10 64] [1,4,5,7,10] (sq [mk 11 (ki 1)] [1,4,5,7,10,11] (sq [ln 65 12 7,mo 66 11,ca 67 10 [.t 65,.t 66],mo 11 67] [1,4,5,7,10,11] (.seq (sq [mo 68 11,bn 69 .lss (.t 68) (ki 0)] [1,4,5,7,10,11,69] (.cond (.t 69) (.seq (.ops [mk 2 (kb false)]) (.keep (kp [(2,0)] [] 0) .ret)) .skip)) (.trim [1,4,5,7,10,11] (.seq (sq [mo 70 11,mo 71 10,bn 72 .neq (.t 70) (.t 71)] [1,4,5,7,10,72] (.cond (.t 72) (.seq (.ops [mk 2 (kb false)]) (.keep (kp [(2,0)] [] 0) .ret)) .skip)) (.trim [1,4,5,7,10] (sq [ln 74 12 1,ca 75 6 [.t 74],ca 76 7 [.t 75],mo 73 76,oo 77 (.ext (.t 73) 0),oo 78 (.ext (.t 73) 1),oo 12 (.alloc [.nils,.nils,(.int .i64 0),(.bool false),(.int .i64 0),(.int .i64 0),(.int .i64 0),(.int .i64 0),(.int .i64 0),(.int .i64 0),.nils,.nils]),⟨none,none,(.store 12 (.t 12) (.t 77))⟩,mo 13 78] [4,5,7,10,12,13] (.seq (sq [ln 79 12 12,ln 80 12 4,ca 81 8 [.t 79,.t 80],nt 82 81,mo 83 82,⟨(some 84),(some (83,false)),(.mv (.t 13))⟩,⟨(some 85),(some (83,false)),(.mv (.t 5))⟩,⟨(some 86),(some (83,false)),(.bin .num .neq (.t 84) (.t 85))⟩,pk 87 (.t 83) (kb true) (.t 86)] [7,10,87] (.cond (.t 87) (.seq (.ops [mk 2 (kb false)]) (.keep (kp [(2,0)] [] 0) .ret)) .skip)) (.trim [7,10] (sq [mk 11 (ki 1)] [7,10,11] (sq [ln 88 12 7,mo 89 11,ca 90 10 [.t 88,.t 89],mo 11 90] [10,11] (.seq (sq [mo 91 11,bn 92 .lss (.t 91) (ki 0)] [10,11,92] (.cond (.t 92) (.seq (.ops [mk 2 (kb false)]) (.keep (kp [(2,0)] [] 0) .ret)) .skip)) (.trim [10,11] (.seq (sq [mo 93 11,mo 94 10,bn 95 .neq (.t 93) (.t 94)] [95] (.cond (.t 95) (.seq (.ops [mk 2 (kb false)]) (.keep (kp [(2,0)] [] 0) .ret)) .skip)) (.trim [] (.seq (.ops [mk 2 (kb true)]) (.keep (kp [(2,0)] [] 0) .ret))))))))))))))))))))))))))))))))))),[.t 2]⟩
abbrev g16_S:=Sys.on [(4,g80_r),(6,g83_r),(5,g50_r),(7,g57_r),(8,g93_r),(10,g70_r)] [((9,0),(4,g28_r))]
def laws_FnExactCheckpoint (a_aP:K1):Option (Bool):=(laws_szPager a_aP 1048576).bind fun r1=>if r1 < 0 then some true else (laws_toPager a_aP).bind fun r2=>(spec_Checkpoint r2).bind fun r3=>(laws_toPager a_aP).bind fun r4=>(impl_Checkpoint r4).bind fun r5=>(laws_eqPager r5.1 r3.1).bind fun r6=>if ¬(r6 = true) then some false else if ¬(r5.2 = r3.2) then some false else (laws_toPager a_aP).bind fun r7=>(laws_eqPager r4 r7).bind fun r8=>if ¬(r8 = true) then some false else (laws_markPager_o71 r4.1.1 r4.1.2.1 r4.1.2.2.1 r4.1.2.2.2 r4.2.1.1 r4.2.1.2.1 r4.2.1.2.2.1 r4.2.1.2.2.2 r4.2.2.1 r4.2.2.2.1 r4.2.2.2.2.1 r4.2.2.2.2.2 1).bind fun r9=>if r9.1.length = r4.1.1.length ∧ r9.2.1.length = r4.1.2.1.length ∧ r9.2.2.1.length = r4.2.2.2.2.1.length ∧ r9.2.2.2.1.length = r4.2.2.2.2.2.length then if r9.2.2.2.2 < 0 then some false else (laws_eqPager r5.1 r3.1).bind fun r10=>if ¬(r10 = true) then some false else if ¬(r5.2 = r3.2) then some false else (laws_markPager_o71 r5.1.1.1 r5.1.1.2.1 r5.1.1.2.2.1 r5.1.1.2.2.2 r5.1.2.1.1 r5.1.2.1.2.1 r5.1.2.1.2.2.1 r5.1.2.1.2.2.2 r5.1.2.2.1 r5.1.2.2.2.1 r5.1.2.2.2.2.1 r5.1.2.2.2.2.2 1).bind fun r11=>if r11.1.length = r5.1.1.1.length ∧ r11.2.1.length = r5.1.1.2.1.length ∧ r11.2.2.1.length = r5.1.2.2.2.2.1.length ∧ r11.2.2.2.1.length = r5.1.2.2.2.2.2.length then (laws_heldPager ((((fixLen r5.1.1.1 r11.1),(fixLen r5.1.1.2.1 r11.2.1),r5.1.1.2.2.1,r5.1.1.2.2.2),(r5.1.2.1.1,r5.1.2.1.2.1,r5.1.2.1.2.2.1,r5.1.2.1.2.2.2),r5.1.2.2.1,r5.1.2.2.2.1,(fixLen r5.1.2.2.2.2.1 r11.2.2.1),(fixLen r5.1.2.2.2.2.2 r11.2.2.2.1))) 1).bind fun r12=>if r12 < 0 then some false else if ¬(r12 = r11.2.2.2.2) then some false else (laws_toPager a_aP).bind fun r13=>(impl_Checkpoint r13).bind fun r14=>(laws_eqPager r14.1 r3.1).bind fun r15=>if ¬(r15 = true) then some false else if ¬(r14.2 = r3.2) then some false else (laws_heldPager ((((fixLen r5.1.1.1 r11.1),(fixLen r5.1.1.2.1 r11.2.1),r5.1.1.2.2.1,r5.1.1.2.2.2),(r5.1.2.1.1,r5.1.2.1.2.1,r5.1.2.1.2.2.1,r5.1.2.1.2.2.2),r5.1.2.2.1,r5.1.2.2.2.1,(fixLen r5.1.2.2.2.2.1 r11.2.2.1),(fixLen r5.1.2.2.2.2.2 r11.2.2.2.1))) 1).bind fun r16=>if r16 < 0 then some false else if ¬(r16 = r11.2.2.2.2) then some false else some true else none else none
@[simp] def g16_O:Bool → TV × List Blk:=fun r=>((.bool r),[])
def g16_E (a:K1):List TV:=[(.agg [(.vs (rows a.1.1)),(.vs (rows a.1.2.1)),(.int .i64 a.1.2.2.1),(.bool a.1.2.2.2),(.int .i64 a.2.1.1),(.int .i64 a.2.1.2.1),(.int .i64 a.2.1.2.2.1),(.int .i64 a.2.1.2.2.2),(.int .i64 a.2.2.1),(.int .i64 a.2.2.2.1),(.vs (rows a.2.2.2.2.1)),(.vs (rows a.2.2.2.2.2))])]
theorem g16_run (a_aP:K1) :callFn (X g16_S) g16_tf (g16_E a_aP) [] = (laws_FnExactCheckpoint a_aP).map g16_O:=by
  rw [callFn_eq]
  simp (maxSteps:=2000000) (maxDischargeDepth:=8) -implicitDefEqProofs [g16_tf,laws_FnExactCheckpoint,g16_E] <;> (try simp only [map_to_bind,some_elim,g16_O])
def laws_FnExactCheckpoint_r:Rule:=RlO g16_E (fun a=>laws_FnExactCheckpoint a) g16_O
theorem laws_FnExactCheckpoint_ok:RuleOk Tryz.prog 3 laws_FnExactCheckpoint_r:=ok_rlo (S:=g16_S) (tf:=g16_tf) (SysOk.on ⟨g80_ok,g83_ok,g50_ok,g57_ok,g93_ok,g70_ok,trivial⟩ ⟨g28_ok,trivial⟩) (trE_ok (ks:=[[3]]) Tryz.func3 (by kernel_rfl)) fun a=>g16_run a
@[simp] theorem laws_FnExactCheckpoint_app (y0 y1 y2 y3 y4 y5 y6 y7 y8 y9 y10 y11):laws_FnExactCheckpoint_r [(.agg [(.vs (rows y0)),(.vs (rows y1)),(.int .i64 y2),(.bool y3),(.int .i64 y4),(.int .i64 y5),(.int .i64 y6),(.int .i64 y7),(.int .i64 y8),(.int .i64 y9),(.vs (rows y10)),(.vs (rows y11))])] = (laws_FnExactCheckpoint (((y0,y1,y2,y3),(y4,y5,y6,y7),y8,y9,y10,y11))).map g16_O :=
  RlO_app (enc:=g16_E) (by intro a b h; simp [g16_E,Prod.ext_iff] at h ⊢; simp [h]) (((y0,y1,y2,y3),(y4,y5,y6,y7),y8,y9,y10,y11))
end
end Go.Proofs.TM
