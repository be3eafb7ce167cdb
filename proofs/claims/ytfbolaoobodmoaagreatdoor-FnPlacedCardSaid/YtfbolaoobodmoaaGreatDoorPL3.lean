/- Functions of the program, as functions of their data: written by program. -/
import Derived.Test.YtfbolaoobodmoaaGreatDoorPL2
namespace Go.Proofs.TM
open Go Go.Proofs
set_option linter.unusedVariables false
set_option linter.unusedSimpArgs false
set_option maxHeartbeats 1000000
attribute [-simp] Option.map_bind strV_some
attribute [simp] guardOn_bool sA_bslice Function.comp_def
noncomputable section
/-! (*spec.l00Src).word -/
def g24l1_cb:TC:=(.seq (sq [mo 11 6,bn 12 .gtr (.t 11) (ki 0)] [0,5,6,12] (.cond (.t 12) .skip (.keep (kp [(5,1)] [(0,0),(1,1)] 1) (.exit 0)))) (.trim [0,5,6] (.seq (.block 1 (.ops [mo 15 5,mo 16 0,oo 17 (.callM 55 0 [0] [.t 16]),oo 18 (.conv (.toInt .u8) (.t 17)),oo 19 (.bslice [(.int .u8 0)] 1 [(0,(.t 18))]),oo 20 (.append 5 1 1 (.t 15) (.t 19)),mo 5 20])) (.trim [0,5,6] (.after (.ops [mo 13 6,bn 14 .sub (.t 13) (ki 1),mo 6 14]) (kp [(0,0),(5,1),(6,0)] [(0,0),(3,1)] 1))))))
def g24l1_c:TC:=.loop [0,5,6] g24l1_cb
def g24_tf:TFn:=⟨(sq [mk 4 (.c (.str []))] [0,1] (sq [oo 7 (.bslice [(.int .u8 0)] 0 []),mo 5 7] [0,1,5] (.seq (sq [mo 8 0,mo 9 1,oo 10 (.callM 23 0 [0] [.t 8,.t 9]),mo 6 10] [0,5,6] (.block 0 (.keep (kp [(0,0),(5,1),(6,0)] [(0,0),(1000,1)] 1) g24l1_c))) (.trim [5] (.seq (.ops [mo 21 5,oo 22 (.conv .toStr (.t 21)),mo 4 22]) (.keep (kp [(4,0)] [(0,0)] 1) .ret)))))),[.t 4]⟩
abbrev g24_S:=Sys.on [] [((23,0),(1,g23_r)),((55,0),(1,g22_r))]
@[reducible,simp] def g24l1_F:(List Bt × Int × Int × List Bt) → Out:=(fun t=>(.ext 0,[(5,(ow 1 t.2.2.2.length))],[(.live 3 [[(.vs (rows t.1)),(.int .i64 t.2.1),(.int .u64 t.2.2.1)]]),(ob 1 t.2.2.2)]))
def spec_l00Src_word_o30_l1_b (v2:List Bt) (v3:Int) (v4:Int) (v5:List Bt) (v6:Int):Option ((List Bt × Int × Int × List Bt × Int) ⊕ (List Bt × Int × Int × List Bt)):=if v6 > 0 then (spec_l00Src_next_o9d v2 v3 v4).bind fun r7=>(appL 1 v5 ((lit [(⟨UInt8.ofNat ((IntKind.u8.wrap r7.2.2.2)).toNat⟩:Bt)]:List Bt))).bind fun l8=>some (.inl (r7.1,r7.2.1,r7.2.2.1,l8,(IntKind.i64.wrap (v6 - 1)))) else some (.inr (v2,v3,v4,v5))
theorem g24l1_b_eq  (v2:List Bt) (v3:Int) (v4:Int) (v5:List Bt) (v6:Int):X g24_S g24l1_cb (keepEnv [0,5,6] [(0,(.ptr 0 0 0)),(5,(ow 1 v5.length)),(6,(.int .i64 v6))]) [(.live 3 [[(.vs (rows v2)),(.int .i64 v3),(.int .u64 v4)]]),(ob 1 v5)] = (spec_l00Src_word_o30_l1_b v2 v3 v4 v5 v6).map (Sum.elim (fun s=>(TX.nrm,[(0,(.ptr 0 0 0)),(5,(ow 1 s.2.2.2.1.length)),(6,(.int .i64 s.2.2.2.2))],[(.live 3 [[(.vs (rows s.1)),(.int .i64 s.2.1),(.int .u64 s.2.2.1)]]),(ob 1 s.2.2.2.1)])) g24l1_F):=by
  simp (maxSteps:=2000000) (maxDischargeDepth:=8) -implicitDefEqProofs [g24l1_cb,spec_l00Src_word_o30_l1_b,bslV_lit (α:=Bt) (zs:=[(.int .u8 0)])] <;> (try simp only [map_to_bind,some_elim,g24l1_F])
def spec_l00Src_word_o30_l1  (s:List Bt × Int × Int × List Bt × Int):Option (List Bt × Int × Int × List Bt):=loopO (fun s=>spec_l00Src_word_o30_l1_b  s.1 s.2.1 s.2.2.1 s.2.2.2.1 s.2.2.2.2) s
@[simp] theorem g24l1_eq (y0 y1 y2)(y3:List Bt)(y4){n1:Nat}(h1:n1 = y3.length):X g24_S g24l1_c [(0,(.ptr 0 0 0)),(5,(ow 1 n1)),(6,(.int .i64 y4))] [(.live 3 [[(.vs (rows y0)),(.int .i64 y1),(.int .u64 y2)]]),(ob 1 y3)] = (spec_l00Src_word_o30_l1  (y0,y1,y2,y3,y4)).map g24l1_F:=by
  subst h1
  exact loop_X _ _ _ _ (by intro r; first | (simp; done) | (rcases r with r | r <;> simp; done) | (rcases r with r | r | r <;> simp; done) | (rcases r with r | r | r | r <;> simp)) (fun s=>g24l1_b_eq   s.1 s.2.1 s.2.2.1 s.2.2.2.1 s.2.2.2.2) (y0,y1,y2,y3,y4)
@[simp] theorem g24l1_eq_3 (y0 y1 y2 y3):X g24_S g24l1_c [(0,(.ptr 0 0 0)),(5,.es),(6,(.int .i64 y3))] [(.live 3 [[(.vs (rows y0)),(.int .i64 y1),(.int .u64 y2)]]),.dead] = (spec_l00Src_word_o30_l1  (y0,y1,y2,([]:List Bt),y3)).map g24l1_F :=
  g24l1_eq  y0 y1 y2 ([]:List Bt) y3 rfl
def spec_l00Src_word_o30 (a1:List Bt) (a2:Int) (a3:Int) (a4:Int):Option (List Bt × Int × Int × Str):=(spec_l00Src_pick_o30 a1 a2 a3 a4).bind fun r1=>(spec_l00Src_word_o30_l1 ((r1.1,r1.2.1,r1.2.2.1,([]:List Bt),r1.2.2.2))).bind fun r9=>some (r9.1,r9.2.1,r9.2.2.1,(r9.2.2.2.map Bt.v))
@[simp] def g24_O:(List Bt × Int × Int × Str) → TV × List Blk:=fun r=>((.str r.2.2.2),[(.live 3 [[(.vs (rows r.1)),(.int .i64 r.2.1),(.int .u64 r.2.2.1)]])])
abbrev g24_T:=List Bt × Int × Int × Int
def g24_E (a:g24_T):List TV:=[(.ptr 0 0 0),(.int .i64 a.2.2.2)]
def g24_B (a:g24_T):List Blk:=[(.live 3 [[(.vs (rows a.1)),(.int .i64 a.2.1),(.int .u64 a.2.2.1)]])]
theorem g24_run (a1:List Bt) (a2:Int) (a3:Int) (a4:Int) :callFn (X g24_S) g24_tf (g24_E (a1,a2,a3,a4)) (g24_B (a1,a2,a3,a4)) = (spec_l00Src_word_o30 a1 a2 a3 a4).map g24_O:=by
  rw [callFn_eq]
  simp (maxSteps:=2000000) (maxDischargeDepth:=8) -implicitDefEqProofs [g24_tf,spec_l00Src_word_o30,g24_E,g24_B,bslV_lit (α:=Bt) (zs:=[(.int .u8 0)])] <;> (try simp only [map_to_bind,some_elim,g24_O])
def g24_r:MRule:=RmO g24_E g24_B (fun a=>spec_l00Src_word_o30 a.1 a.2.1 a.2.2.1 a.2.2.2) g24_O
theorem g24_ok:MRuleOk Tryz.prog 26 1 g24_r:=ok_rmo (S:=g24_S) (tf:=g24_tf) (SysOk.on trivial ⟨g23_ok,g22_ok,trivial⟩) (trE_ok (ks:=[[0,5,6]]) Tryz.func26 (by kernel_rfl)) (by rfl) (fun _=>by simp [g24_B]) (fun _=>by simp) fun a=>g24_run a.1 a.2.1 a.2.2.1 a.2.2.2
@[simp] theorem g24_app (y0 y1 y2 y3):g24_r [(.ptr 0 0 0),(.int .i64 y3)] [(.live 3 [[(.vs (rows y0)),(.int .i64 y1),(.int .u64 y2)]])] = (spec_l00Src_word_o30 y0 y1 y2 y3).map g24_O:=by
  exact RmO_app (enc:=g24_E) (encB:=g24_B) (by intro a b h h2; simp [g24_E,g24_B,Prod.ext_iff] at h h2 ⊢; simp [h,h2]) (y0,y1,y2,y3)
/-! spec.l12Bent -/
def g58_tf:TFn:=⟨(sq [oo 4 (.alloc [.nils,.nils,(.int .i64 0),(.bool false),(.int .i64 0),(.int .i64 0),(.int .i64 0),(.int .i64 0),(.int .i64 0),(.int .i64 0),.nils,.nils])] [0,1,4] (sq [mo 6 0,oo 7 (.callM 21 0 [0] [.t 6]),oo 5 (.alloc [.nils,.nils,(.int .i64 0),(.bool false),(.int .i64 0),(.int .i64 0),(.int .i64 0),(.int .i64 0),(.int .i64 0),(.int .i64 0),.nils,.nils]),⟨none,none,(.store 12 (.t 5) (.t 7))⟩] [0,1,4,5] (.seq (sq [mo 8 0,mo 9 1,oo 10 (.callM 22 0 [0] [.t 8,.t 9]),nt 11 10] [0,4,5,11] (.cond (.t 11) (.seq (.ops [ln 12 12 5,⟨none,none,(.store 12 (.t 4) (.t 12))⟩]) (.keep (kp [(4,0)] [(0,0),(1,2),(3,1),(4,1),(5,1),(6,1)] 1) .ret)) .skip)) (.trim [0,4,5] (.seq (sq [mo 13 0,oo 14 (.callM 23 0 [0] [.t 13,ki 8])] [0,4,5,14] (.block 0 (sq [bn 21 .eql (.t 14) (ki 0),mo 20 21] [0,4,5,14,20] (.cond (.t 20) (.after (.ops [fa 22 4 5,fa 23 1 22,ld 24 23,bn 25 .add (.t 24) (ki 1),fa 26 4 5,fa 27 1 26,⟨none,none,(.store 1 (.t 27) (.t 25))⟩]) (kp [(4,0),(5,0)] [(0,0),(1,2),(7,2),(3,1),(4,1),(5,1),(6,1)] 1)) (sq [bn 29 .eql (.t 14) (ki 1),mo 28 29] [0,4,5,14,28] (.cond (.t 28) (.after (.ops [mo 30 0,oo 31 (.bslice [(.int .i64 0)] 3 [(0,(ki (-1))),(1,(ki 1000000000000)),(2,(ki 1000000000001))]),oo 32 (.callM 24 0 [0,8] [.t 30,.t 31]),fa 33 8 5,⟨none,none,(.store 1 (.t 33) (.t 32))⟩]) (kp [(4,0),(5,0)] [(0,0),(1,2),(7,2),(3,1),(4,1),(5,1),(6,1)] 1)) (sq [bn 35 .eql (.t 14) (ki 2),mo 34 35] [0,4,5,14,34] (.cond (.t 34) (.after (.ops [mo 36 0,fa 37 4 5,fa 38 1 37,ld 39 38,fa 40 4 5,fa 41 1 40,ld 42 41,bn 43 .add (.t 42) (ki 1),oo 44 (.bslice [(.int .i64 0)] 3 [(0,(ki (-1))),(1,(.t 39)),(2,(.t 43))]),oo 45 (.callM 24 0 [0,8] [.t 36,.t 44]),fa 46 9 5,⟨none,none,(.store 1 (.t 46) (.t 45))⟩]) (kp [(4,0),(5,0)] [(0,0),(1,2),(7,2),(3,1),(4,1),(5,1),(6,1)] 1)) (sq [bn 48 .eql (.t 14) (ki 3),mo 47 48] [0,4,5,14,47] (.cond (.t 47) (.after (.drawF [(none,fa 49 10 5),(none,ld 50 49),(none,mo 51 0),(some [49,50],oo 52 (.callM 23 0 [0] [.t 51,ki 30])),(some [49,50],ca 53 25 []),(some [49,50],oo 54 (.build [(.int .i64 0),(.str [])] [(0,1,(.t 52)),(1,1,(.t 53))])),(some [49,50],oo 55 (.bslice [(.int .i64 0),(.str [])] 1 [(0,(.t 54))]))] [oo 56 (.append 59 2 24 (.t 50) (.t 55)),fa 57 10 5,⟨none,none,(.store 1 (.t 57) (.t 56))⟩]) (kp [(4,0),(5,0)] [(0,0),(1,2),(7,2),(3,1),(4,1),(9,1),(6,1)] 1)) (sq [bn 59 .eql (.t 14) (ki 4),mo 58 59] [0,4,5,14,58] (.cond (.t 58) (.after (.drawF [(none,fa 60 11 5),(none,ld 61 60),(none,mo 62 0),(none,mo 64 0),(some [60,61,64],oo 63 (.callM 23 0 [0] [.t 62,ki 60])),(some [60,61],oo 65 (.callM 26 0 [0] [.t 64,ki 66])),(some [60,61],oo 66 (.build [(.int .i64 0),(.str [])] [(0,1,(.t 63)),(1,1,(.t 65))])),(some [60,61],oo 67 (.bslice [(.int .i64 0),(.str [])] 1 [(0,(.t 66))]))] [oo 68 (.append 59 2 24 (.t 61) (.t 67)),fa 69 11 5,⟨none,none,(.store 1 (.t 69) (.t 68))⟩]) (kp [(4,0),(5,0)] [(0,0),(1,2),(7,2),(3,1),(4,1),(5,1),(9,1)] 1)) (sq [bn 71 .eql (.t 14) (ki 5),mo 70 71] [0,4,5,14,70] (.cond (.t 70) (.after (.ops [fa 72 0 5,fa 73 0 72,ld 74 73,oo 75 (.recut 1 (.t 74) (some (ki 1)) none),fa 76 0 5,fa 77 0 76,⟨none,none,(.store 1 (.t 77) (.t 75))⟩]) (kp [(4,0),(5,0)] [(0,0),(1,2),(7,2),(8,1),(4,1),(5,1),(6,1)] 1)) (sq [bn 79 .eql (.t 14) (ki 6),mo 78 79] [0,4,5,78] (.cond (.t 78) (.seq (.drawF [(none,fa 80 0 5),(none,fa 81 1 80),(none,ld 82 81),(none,mo 83 0),(some [80,81,82],oo 84 (.callM 23 0 [0] [.t 83,ki 20])),(some [80,81,82],ca 85 25 []),(some [80,81,82],oo 86 (.build [(.int .i64 0),(.str [])] [(0,1,(.t 84)),(1,1,(.t 85))])),(some [80,81,82],oo 87 (.bslice [(.int .i64 0),(.str [])] 1 [(0,(.t 86))]))] [oo 88 (.append 60 2 24 (.t 82) (.t 87)),fa 89 0 5,fa 90 1 89,⟨none,none,(.store 1 (.t 90) (.t 88))⟩]) (.trim [0,4,5] (.after (.ops [mo 91 0,oo 92 (.callM 22 0 [0] [.t 91,ki 2]),fa 93 0 5,fa 94 3 93,⟨none,none,(.store 1 (.t 94) (.t 92))⟩]) (kp [(4,0),(5,0)] [(0,0),(1,2),(7,2),(3,1),(9,1),(5,1),(6,1)] 1)))) (.after (.ops [mo 15 0,oo 16 (.bslice [(.int .i64 0)] 2 [(0,(ki 1000000000000)),(1,(ki (-1)))]),oo 17 (.callM 24 0 [0,8] [.t 15,.t 16]),fa 18 4 5,fa 19 3 18,⟨none,none,(.store 1 (.t 19) (.t 17))⟩]) (kp [(4,0),(5,0)] [(0,0),(1,2),(7,2),(3,1),(4,1),(5,1),(6,1)] 1)))))))))))))))))) (.trim [4,5] (.seq (.ops [ln 95 12 5,⟨none,none,(.store 12 (.t 4) (.t 95))⟩]) (.keep (kp [(4,0)] [(0,0),(1,2),(3,1),(4,1),(5,1),(6,1)] 1) .ret)))))))),[.cell 4 (some 12)]⟩
abbrev g58_S:=Sys.on [(25,g102_r)] [((21,0),(1,g57_r)),((22,0),(1,g29_r)),((23,0),(1,g23_r)),((24,0),(2,g18_r)),((26,0),(1,g24_r))]
def spec_l12Bent_o30 (a1:List Bt) (a2:Int) (a3:Int) (a4:Int):Option (List Bt × Int × Int × K1):=(spec_l12Draw_o9d a1 a2 a3).bind fun r1=>(spec_l00Src_one_o30 r1.1 r1.2.1 r1.2.2.1 a4).bind fun r2=>if ¬(r2.2.2.2 = true) then some (r2.1,r2.2.1,r2.2.2.1,r1.2.2.2) else (spec_l00Src_pick_o30 r2.1 r2.2.1 r2.2.2.1 8).bind fun r3=>if r3.2.2.2 = 0 then some (r3.1,r3.2.1,r3.2.2.1,(r1.2.2.2.1,(r1.2.2.2.2.1.1,(IntKind.i64.wrap (r1.2.2.2.2.1.2.1 + 1)),r1.2.2.2.2.1.2.2.1,r1.2.2.2.2.1.2.2.2),r1.2.2.2.2.2.1,r1.2.2.2.2.2.2.1,r1.2.2.2.2.2.2.2.1,r1.2.2.2.2.2.2.2.2)) else if r3.2.2.2 = 1 then (spec_l00Src_among_o72 r3.1 r3.2.1 r3.2.2.1 ((lit [(-1),1000000000000,1000000000001]:List Int))).bind fun r4=>if r4.2.2.2.1.length = ((lit [(-1),1000000000000,1000000000001]:List Int)).length then some (r4.1,r4.2.1,r4.2.2.1,(r1.2.2.2.1,r1.2.2.2.2.1,r4.2.2.2.2,r1.2.2.2.2.2.2.1,r1.2.2.2.2.2.2.2.1,r1.2.2.2.2.2.2.2.2)) else none else if r3.2.2.2 = 2 then (spec_l00Src_among_o72 r3.1 r3.2.1 r3.2.2.1 ((lit [(-1),r1.2.2.2.2.1.2.1,(IntKind.i64.wrap (r1.2.2.2.2.1.2.1 + 1))]:List Int))).bind fun r5=>if r5.2.2.2.1.length = ((lit [(-1),r1.2.2.2.2.1.2.1,(IntKind.i64.wrap (r1.2.2.2.2.1.2.1 + 1))]:List Int)).length then some (r5.1,r5.2.1,r5.2.2.1,(r1.2.2.2.1,r1.2.2.2.2.1,r1.2.2.2.2.2.1,r5.2.2.2.2,r1.2.2.2.2.2.2.2.1,r1.2.2.2.2.2.2.2.2)) else none else if r3.2.2.2 = 3 then (spec_l00Src_pick_o30 r3.1 r3.2.1 r3.2.2.1 30).bind fun r6=>(spec_l09Zero).bind fun r7=>(appL 24 r1.2.2.2.2.2.2.2.1 ((lit [(r6.2.2.2,r7)]:List (Int × Str)))).bind fun l8=>some (r6.1,r6.2.1,r6.2.2.1,(r1.2.2.2.1,r1.2.2.2.2.1,r1.2.2.2.2.2.1,r1.2.2.2.2.2.2.1,l8,r1.2.2.2.2.2.2.2.2)) else if r3.2.2.2 = 4 then (spec_l00Src_pick_o30 r3.1 r3.2.1 r3.2.2.1 60).bind fun r9=>(spec_l00Src_word_o30 r9.1 r9.2.1 r9.2.2.1 66).bind fun r10=>(appL 24 r1.2.2.2.2.2.2.2.2 ((lit [(r9.2.2.2,r10.2.2.2)]:List (Int × Str)))).bind fun l11=>some (r10.1,r10.2.1,r10.2.2.1,(r1.2.2.2.1,r1.2.2.2.2.1,r1.2.2.2.2.2.1,r1.2.2.2.2.2.2.1,r1.2.2.2.2.2.2.2.1,l11)) else if r3.2.2.2 = 5 then (cutO r1.2.2.2.1.1 (some 1) none).bind fun l12=>some (r3.1,r3.2.1,r3.2.2.1,((l12,r1.2.2.2.1.2.1,r1.2.2.2.1.2.2.1,r1.2.2.2.1.2.2.2),r1.2.2.2.2.1,r1.2.2.2.2.2.1,r1.2.2.2.2.2.2.1,r1.2.2.2.2.2.2.2.1,r1.2.2.2.2.2.2.2.2)) else if r3.2.2.2 = 6 then (spec_l00Src_pick_o30 r3.1 r3.2.1 r3.2.2.1 20).bind fun r13=>(spec_l09Zero).bind fun r14=>(appL 24 r1.2.2.2.1.2.1 ((lit [(r13.2.2.2,r14)]:List (Int × Str)))).bind fun l15=>(spec_l00Src_one_o30 r13.1 r13.2.1 r13.2.2.1 2).bind fun r16=>some (r16.1,r16.2.1,r16.2.2.1,((r1.2.2.2.1.1,l15,r1.2.2.2.1.2.2.1,r16.2.2.2),r1.2.2.2.2.1,r1.2.2.2.2.2.1,r1.2.2.2.2.2.2.1,r1.2.2.2.2.2.2.2.1,r1.2.2.2.2.2.2.2.2)) else (spec_l00Src_among_o72 r3.1 r3.2.1 r3.2.2.1 ((lit [1000000000000,(-1)]:List Int))).bind fun r17=>if r17.2.2.2.1.length = ((lit [1000000000000,(-1)]:List Int)).length then some (r17.1,r17.2.1,r17.2.2.1,(r1.2.2.2.1,(r1.2.2.2.2.1.1,r1.2.2.2.2.1.2.1,r1.2.2.2.2.1.2.2.1,r17.2.2.2.2),r1.2.2.2.2.2.1,r1.2.2.2.2.2.2.1,r1.2.2.2.2.2.2.2.1,r1.2.2.2.2.2.2.2.2)) else none
@[simp] def g58_O:(List Bt × Int × Int × K1) → TV × List Blk:=fun r=>((.agg [(ow 2 r.2.2.2.1.1.length),(ow 3 r.2.2.2.1.2.1.length),(.int .i64 r.2.2.2.1.2.2.1),(.bool r.2.2.2.1.2.2.2),(.int .i64 r.2.2.2.2.1.1),(.int .i64 r.2.2.2.2.1.2.1),(.int .i64 r.2.2.2.2.1.2.2.1),(.int .i64 r.2.2.2.2.1.2.2.2),(.int .i64 r.2.2.2.2.2.1),(.int .i64 r.2.2.2.2.2.2.1),(ow 4 r.2.2.2.2.2.2.2.1.length),(ow 5 r.2.2.2.2.2.2.2.2.length)]),[(.live 3 [[(.vs (rows r.1)),(.int .i64 r.2.1),(.int .u64 r.2.2.1)]]),(.live 12 [[(ow 2 r.2.2.2.1.1.length),(ow 3 r.2.2.2.1.2.1.length),(.int .i64 r.2.2.2.1.2.2.1),(.bool r.2.2.2.1.2.2.2),(.int .i64 r.2.2.2.2.1.1),(.int .i64 r.2.2.2.2.1.2.1),(.int .i64 r.2.2.2.2.1.2.2.1),(.int .i64 r.2.2.2.2.1.2.2.2),(.int .i64 r.2.2.2.2.2.1),(.int .i64 r.2.2.2.2.2.2.1),(ow 4 r.2.2.2.2.2.2.2.1.length),(ow 5 r.2.2.2.2.2.2.2.2.length)]]),(ob 1 r.2.2.2.1.1),(ob 2 r.2.2.2.1.2.1),(ob 2 r.2.2.2.2.2.2.2.1),(ob 2 r.2.2.2.2.2.2.2.2)])
abbrev g58_T:=List Bt × Int × Int × Int
def g58_E (a:g58_T):List TV:=[(.ptr 0 0 0),(.int .i64 a.2.2.2)]
def g58_B (a:g58_T):List Blk:=[(.live 3 [[(.vs (rows a.1)),(.int .i64 a.2.1),(.int .u64 a.2.2.1)]])]
theorem g58_run (a1:List Bt) (a2:Int) (a3:Int) (a4:Int) :callFn (X g58_S) g58_tf (g58_E (a1,a2,a3,a4)) (g58_B (a1,a2,a3,a4)) = (spec_l12Bent_o30 a1 a2 a3 a4).map g58_O:=by
  rw [callFn_eq]
  simp (maxSteps:=2000000) (maxDischargeDepth:=8) -implicitDefEqProofs [g58_tf,spec_l12Bent_o30,g58_E,g58_B,bslV_lit (α:=Int × Str) (zs:=[(.int .i64 0),(.str [])]),bslV_lit (α:=Int) (zs:=[(.int .i64 0)])] <;> (try simp only [map_to_bind,some_elim,g58_O])
def g58_r:MRule:=RmO g58_E g58_B (fun a=>spec_l12Bent_o30 a.1 a.2.1 a.2.2.1 a.2.2.2) g58_O
theorem g58_ok:MRuleOk Tryz.prog 12 1 g58_r:=ok_rmo (S:=g58_S) (tf:=g58_tf) (SysOk.on ⟨g102_ok,trivial⟩ ⟨g57_ok,g29_ok,g23_ok,g18_ok,g24_ok,trivial⟩) (trE_ok (ks:=[[7,2000000,0,0,0,0,3,49,50,3,49,50,3,49,50,3,49,50],[8,2000000,11,0,1,2,4,3,5,6,7,8,9,10,0,0,0,0,4,60,61,64,3,60,61,3,60,61,3,60,61],[8,2000000,0,0,0,0,0,4,80,81,82,4,80,81,82,4,80,81,82,4,80,81,82]]) Tryz.func12 (by kernel_rfl)) (by rfl) (fun _=>by simp [g58_B]) (fun _=>by simp) fun a=>g58_run a.1 a.2.1 a.2.2.1 a.2.2.2
@[simp] theorem g58_app (y0 y1 y2 y3):g58_r [(.ptr 0 0 0),(.int .i64 y3)] [(.live 3 [[(.vs (rows y0)),(.int .i64 y1),(.int .u64 y2)]])] = (spec_l12Bent_o30 y0 y1 y2 y3).map g58_O:=by
  exact RmO_app (enc:=g58_E) (encB:=g58_B) (by intro a b h h2; simp [g58_E,g58_B,Prod.ext_iff] at h h2 ⊢; simp [h,h2]) (y0,y1,y2,y3)
/-! spec.DrawCheckpoint -/
def g30_tf:TFn:=⟨(sq [oo 2 (.alloc [.nils,.nils,(.int .i64 0),(.bool false),(.int .i64 0),(.int .i64 0),(.int .i64 0),(.int .i64 0),(.int .i64 0),(.int .i64 0),.nils,.nils])] [0,2] (sq [mo 4 0,ca 5 11 [.t 4],mo 3 5] [2,3] (.seq (.ops [mo 6 3,oo 7 (.callM 12 0 [1] [.t 6,ki 9]),⟨none,none,(.store 12 (.t 2) (.t 7))⟩]) (.keep (kp [(2,0)] [(0,2),(3,1),(4,1),(5,1),(6,1)] 0) .ret)))),[.cell 2 (some 12)]⟩
abbrev g30_S:=Sys.on [(11,g101_r)] [((12,0),(1,g58_r))]
def spec_DrawCheckpoint (a_code:List Bt):Option (K1):=(spec_l00From a_code).bind fun r1=>(spec_l12Bent_o30 r1.1 r1.2.1 r1.2.2 9).bind fun r2=>some r2.2.2.2
@[simp] def g30_O:(K1) → TV × List Blk:=fun r=>((.agg [(ow 1 r.1.1.length),(ow 2 r.1.2.1.length),(.int .i64 r.1.2.2.1),(.bool r.1.2.2.2),(.int .i64 r.2.1.1),(.int .i64 r.2.1.2.1),(.int .i64 r.2.1.2.2.1),(.int .i64 r.2.1.2.2.2),(.int .i64 r.2.2.1),(.int .i64 r.2.2.2.1),(ow 3 r.2.2.2.2.1.length),(ow 4 r.2.2.2.2.2.length)]),[(.live 12 [[(ow 1 r.1.1.length),(ow 2 r.1.2.1.length),(.int .i64 r.1.2.2.1),(.bool r.1.2.2.2),(.int .i64 r.2.1.1),(.int .i64 r.2.1.2.1),(.int .i64 r.2.1.2.2.1),(.int .i64 r.2.1.2.2.2),(.int .i64 r.2.2.1),(.int .i64 r.2.2.2.1),(ow 3 r.2.2.2.2.1.length),(ow 4 r.2.2.2.2.2.length)]]),(ob 1 r.1.1),(ob 2 r.1.2.1),(ob 2 r.2.2.2.2.1),(ob 2 r.2.2.2.2.2)])
def g30_E (a:List Bt):List TV:=[(.vs (rows a))]
theorem g30_run (a_code:List Bt) :callFn (X g30_S) g30_tf (g30_E a_code) [] = (spec_DrawCheckpoint a_code).map g30_O:=by
  rw [callFn_eq]
  simp (maxSteps:=2000000) (maxDischargeDepth:=8) -implicitDefEqProofs [g30_tf,spec_DrawCheckpoint,g30_E] <;> (try simp only [map_to_bind,some_elim,g30_O])
def g30_r:Rule:=RlO g30_E (fun a=>spec_DrawCheckpoint a) g30_O
theorem g30_ok:RuleOk Tryz.prog 5 g30_r:=ok_rlo (S:=g30_S) (tf:=g30_tf) (SysOk.on ⟨g101_ok,trivial⟩ ⟨g58_ok,trivial⟩) (trE_ok (ks:=[]) Tryz.func5 (by kernel_rfl)) fun a=>g30_run a
@[simp] theorem g30_app (y0):g30_r [(.vs (rows y0))] = (spec_DrawCheckpoint y0).map g30_O :=
  RlO_app (enc:=g30_E) (by intro a b h; simp [g30_E,Prod.ext_iff] at h ⊢; simp [h]) y0
/-! impl.within -/
def g118_tf:TFn:=⟨(sq [mk 6 (kb false)] [0,1,2] (.seq (.after (.ops [mo 7 0,mo 8 1,bn 9 .geq (.t 7) (.t 8),mo 10 9,⟨(some 11),(some (10,true)),(.mv (.t 0))⟩,⟨(some 12),(some (10,true)),(.mv (.t 2))⟩,⟨(some 13),(some (10,true)),(.bin .num .leq (.t 11) (.t 12))⟩,pk 14 (.t 10) (.t 13) (kb false),mo 6 14]) (kp [(6,0)] [] 0)) (.keep (kp [(6,0)] [] 0) .ret))),[.t 6]⟩
abbrev g118_S:=Sys.on [] []
def impl_within (a_n:Int) (a_low:Int) (a_high:Int):Option (Bool):=if a_n ≥ a_low then some ((decide (a_n ≤ a_high))) else some false
@[simp] def g118_O:Bool → TV × List Blk:=fun r=>((.bool r),[])
def g118_E (a:Int × Int × Int):List TV:=[(.int .i64 a.1),(.int .i64 a.2.1),(.int .i64 a.2.2)]
theorem g118_run (a_n:Int) (a_low:Int) (a_high:Int) :callFn (X g118_S) g118_tf (g118_E (a_n,a_low,a_high)) [] = (impl_within a_n a_low a_high).map g118_O:=by
  rw [callFn_eq]
  simp (maxSteps:=2000000) (maxDischargeDepth:=8) -implicitDefEqProofs [g118_tf,impl_within,g118_E] <;> (try simp only [map_to_bind,some_elim,g118_O])
def g118_r:Rule:=RlO g118_E (fun a=>impl_within a.1 a.2.1 a.2.2) g118_O
theorem g118_ok:RuleOk Tryz.prog 28 g118_r:=ok_rlo (S:=g118_S) (tf:=g118_tf) (SysOk.on trivial trivial) (trE_ok (ks:=[]) Tryz.func28 (by kernel_rfl)) fun a=>g118_run a.1 a.2.1 a.2.2
@[simp] theorem g118_app (y0 y1 y2):g118_r [(.int .i64 y0),(.int .i64 y1),(.int .i64 y2)] = (impl_within y0 y1 y2).map g118_O :=
  RlO_app (enc:=g118_E) (by intro a b h; simp [g118_E,Prod.ext_iff] at h ⊢; simp [h]) (y0,y1,y2)
/-! impl.isBlock -/
def g110_tf:TFn:=⟨(sq [mk 2 (kb false)] [0] (.seq (.ops [mo 3 0,oo 4 (.len true (.t 3)),bn 5 .eql (.t 4) (ki 64),mo 2 5]) (.keep (kp [(2,0)] [] 0) .ret))),[.t 2]⟩
abbrev g110_S:=Sys.on [] []
def impl_isBlock (a_s:Str):Option (Bool):=some ((decide ((a_s.length:Int) = 64)))
@[simp] def g110_O:Bool → TV × List Blk:=fun r=>((.bool r),[])
def g110_E (a:Str):List TV:=[(.str a)]
theorem g110_run (a_s:Str) :callFn (X g110_S) g110_tf (g110_E a_s) [] = (impl_isBlock a_s).map g110_O:=by
  rw [callFn_eq]
  simp (maxSteps:=2000000) (maxDischargeDepth:=8) -implicitDefEqProofs [g110_tf,impl_isBlock,g110_E] <;> (try simp only [map_to_bind,some_elim,g110_O])
def g110_r:Rule:=RlO g110_E (fun a=>impl_isBlock a) g110_O
theorem g110_ok:RuleOk Tryz.prog 58 g110_r:=ok_rlo (S:=g110_S) (tf:=g110_tf) (SysOk.on trivial trivial) (trE_ok (ks:=[]) Tryz.func58 (by kernel_rfl)) fun a=>g110_run a
@[simp] theorem g110_app (y0):g110_r [(.str y0)] = (impl_isBlock y0).map g110_O :=
  RlO_app (enc:=g110_E) (by intro a b h; simp [g110_E,Prod.ext_iff] at h ⊢; simp [h]) y0
/-! impl.ValidDisk.1 -/
def g47_tf:TFn:=⟨(sq [mk 2 (kb false)] [0] (.seq (.ops [mo 3 0,ca 4 58 [.t 3],nt 5 4,mo 2 5]) (.keep (kp [(2,0)] [] 0) .ret))),[.t 2]⟩
abbrev g47_S:=Sys.on [(58,g110_r)] []
def impl_ValidDisk_c1 (a_b:Str):Option (Bool):=(impl_isBlock a_b).bind fun r1=>some ((!r1))
@[simp] def g47_O:Bool → TV × List Blk:=fun r=>((.bool r),[])
def g47_E (a:Str):List TV:=[(.str a)]
theorem g47_run (a_b:Str) :callFn (X g47_S) g47_tf (g47_E a_b) [] = (impl_ValidDisk_c1 a_b).map g47_O:=by
  rw [callFn_eq]
  simp (maxSteps:=2000000) (maxDischargeDepth:=8) -implicitDefEqProofs [g47_tf,impl_ValidDisk_c1,g47_E] <;> (try simp only [map_to_bind,some_elim,g47_O])
def g47_r:Rule:=RlO g47_E (fun a=>impl_ValidDisk_c1 a) g47_O
theorem g47_ok:RuleOk Tryz.prog 84 g47_r:=ok_rlo (S:=g47_S) (tf:=g47_tf) (SysOk.on ⟨g110_ok,trivial⟩ trivial) (trE_ok (ks:=[]) Tryz.func84 (by kernel_rfl)) fun a=>g47_run a
@[simp] theorem g47_app (y0):g47_r [(.str y0)] = (impl_ValidDisk_c1 y0).map g47_O :=
  RlO_app (enc:=g47_E) (by intro a b h; simp [g47_E,Prod.ext_iff] at h ⊢; simp [h]) y0
/-! slices.IndexFunc[[]string,string] -/
def g6l1_cb:TC:=(sq [bn 9 .lss (.t 8) (.t 7)] [0,1,7,8,9] (.seq (.cond (.t 9) .skip (.keep (kp [] [] 0) (.exit 0))) (.trim [0,1,7,8] (.seq (.block 1 (sq [mo 10 8,mo 5 10] [0,1,5,7,8] (sq [mo 11 1,mo 12 0,mo 13 5,ia 14 1 12 13,ld 15 14,oo 16 (.callv (.t 11) [.t 15])] [0,1,5,7,8,16] (.cond (.t 16) (.seq (.ops [mo 17 5,mo 4 17]) (.keep (kp [(4,0)] [] 0) .ret)) .skip)))) (.trim [0,1,7,8] (.after (.ops [bn 18 .add (.t 8) (ki 1),mo 8 18]) (kp [(0,0),(1,0),(7,0),(8,0)] [] 0)))))))
def g6l1_c:TC:=.loop [0,1,7,8] g6l1_cb
def g6_tf:TFn:=⟨(sq [mk 4 (ki 0)] [0,1] (.seq (sq [mo 6 0,le 7 6,mk 8 (ki 0)] [0,1,7,8] (.block 0 (.keep (kp [(0,0),(1,0),(7,0),(8,0)] [] 0) g6l1_c))) (.trim [] (.seq (.ops [mk 4 (ki (-1))]) (.keep (kp [(4,0)] [] 0) .ret))))),[.t 4]⟩
abbrev g6_S:=Sys.on [(84,g47_r)] []
@[reducible,simp] def g6l1_F:((Unit) ⊕ (Int)) → Out:=(Sum.elim (fun t=>(.ext 0,[],[])) (fun t=>(.ret,[(4,(.int .i64 t))],[])))
def slices_IndexFunc_string_string__ValidDisk_c1_l1_b (v1:List Str) (v2:Int) (v3:Int):Option ((Int) ⊕ ((Unit) ⊕ (Int))):=if v3 < v2 then if 0 ≤ v3 then (v1[(v3).toNat]?).bind fun x4=>(impl_ValidDisk_c1 x4).bind fun r5=>if r5 = true then some (.inr (.inr v3)) else some (.inl ((IntKind.i64.wrap (v3 + 1)))) else none else some (.inr (.inl ()))
theorem g6l1_b_eq  (v1:List Str) (v2:Int) (v3:Int):X g6_S g6l1_cb (keepEnv [0,1,7,8] [(0,(.vs (rows v1))),(1,(.fn 84 [] [])),(7,(.int .i64 v2)),(8,(.int .i64 v3))]) [] = (slices_IndexFunc_string_string__ValidDisk_c1_l1_b v1 v2 v3).map (Sum.elim (fun s=>(TX.nrm,[(0,(.vs (rows v1))),(1,(.fn 84 [] [])),(7,(.int .i64 v2)),(8,(.int .i64 s))],[])) g6l1_F):=by
  simp (maxSteps:=2000000) (maxDischargeDepth:=8) -implicitDefEqProofs [g6l1_cb,slices_IndexFunc_string_string__ValidDisk_c1_l1_b] <;> (try simp only [map_to_bind,some_elim,g6l1_F])
def slices_IndexFunc_string_string__ValidDisk_c1_l1 (v1:List Str) (v2:Int) (s:Int):Option ((Unit) ⊕ (Int)):=loopO (fun s=>slices_IndexFunc_string_string__ValidDisk_c1_l1_b v1 v2 s) s
@[simp] theorem g6l1_eq (y0 y1 y2):X g6_S g6l1_c [(0,(.vs (rows y0))),(1,(.fn 84 [] [])),(7,(.int .i64 y1)),(8,(.int .i64 y2))] [] = (slices_IndexFunc_string_string__ValidDisk_c1_l1 y0 y1 y2).map g6l1_F:=by
  exact loop_X _ _ _ _ (by intro r; first | (simp; done) | (rcases r with r | r <;> simp; done) | (rcases r with r | r | r <;> simp; done) | (rcases r with r | r | r | r <;> simp)) (fun s=>g6l1_b_eq  y0 y1 s) y2
def slices_IndexFunc_string_string__ValidDisk_c1 (a_s:List Str):Option (Int):=(slices_IndexFunc_string_string__ValidDisk_c1_l1 a_s ((a_s.length:Int)) 0).bind fun r6=>Sum.elim (fun u7=>some ((-1))) (fun u8=>some u8) r6
@[simp] def g6_O:Int → TV × List Blk:=fun r=>((.int .i64 r),[])
def g6_E (a:List Str):List TV:=[(.vs (rows a)),(.fn 84 [] [])]
theorem g6_run (a_s:List Str) :callFn (X g6_S) g6_tf (g6_E a_s) [] = (slices_IndexFunc_string_string__ValidDisk_c1 a_s).map g6_O:=by
  rw [callFn_eq]
  simp (maxSteps:=2000000) (maxDischargeDepth:=8) -implicitDefEqProofs [g6_tf,slices_IndexFunc_string_string__ValidDisk_c1,g6_E] <;> (try simp only [map_to_bind,some_elim,g6_O])
def g6_r:Rule:=RlO g6_E (fun a=>slices_IndexFunc_string_string__ValidDisk_c1 a) g6_O
theorem g6_ok:RuleOk Tryz.prog 110 g6_r:=ok_rlo (S:=g6_S) (tf:=g6_tf) (SysOk.on ⟨g47_ok,trivial⟩ trivial) (trE_ok (ks:=[[0,1,7,8]]) Tryz.func110 (by kernel_rfl)) fun a=>g6_run a
@[simp] theorem g6_app (y0):g6_r [(.vs (rows y0)),(.fn 84 [] [])] = (slices_IndexFunc_string_string__ValidDisk_c1 y0).map g6_O :=
  RlO_app (enc:=g6_E) (by intro a b h; simp [g6_E,Prod.ext_iff] at h ⊢; simp [h]) y0
/-! slices.ContainsFunc[[]string,string] -/
def g5_tf:TFn:=⟨(sq [mk 4 (kb false)] [0,1] (.seq (.ops [mo 5 0,mo 6 1,ca 7 110 [.t 5,.t 6],bn 8 .geq (.t 7) (ki 0),mo 4 8]) (.keep (kp [(4,0)] [] 0) .ret))),[.t 4]⟩
abbrev g5_S:=Sys.on [(110,g6_r)] []
def slices_ContainsFunc_string_string__ValidDisk_c1 (a_s:List Str):Option (Bool):=(slices_IndexFunc_string_string__ValidDisk_c1 a_s).bind fun r1=>some ((decide (r1 ≥ 0)))
@[simp] def g5_O:Bool → TV × List Blk:=fun r=>((.bool r),[])
def g5_E (a:List Str):List TV:=[(.vs (rows a)),(.fn 84 [] [])]
theorem g5_run (a_s:List Str) :callFn (X g5_S) g5_tf (g5_E a_s) [] = (slices_ContainsFunc_string_string__ValidDisk_c1 a_s).map g5_O:=by
  rw [callFn_eq]
  simp (maxSteps:=2000000) (maxDischargeDepth:=8) -implicitDefEqProofs [g5_tf,slices_ContainsFunc_string_string__ValidDisk_c1,g5_E] <;> (try simp only [map_to_bind,some_elim,g5_O])
def g5_r:Rule:=RlO g5_E (fun a=>slices_ContainsFunc_string_string__ValidDisk_c1 a) g5_O
theorem g5_ok:RuleOk Tryz.prog 83 g5_r:=ok_rlo (S:=g5_S) (tf:=g5_tf) (SysOk.on ⟨g6_ok,trivial⟩ trivial) (trE_ok (ks:=[]) Tryz.func83 (by kernel_rfl)) fun a=>g5_run a
@[simp] theorem g5_app (y0):g5_r [(.vs (rows y0)),(.fn 84 [] [])] = (slices_ContainsFunc_string_string__ValidDisk_c1 y0).map g5_O :=
  RlO_app (enc:=g5_E) (by intro a b h; simp [g5_E,Prod.ext_iff] at h ⊢; simp [h]) y0
/-! impl.isIndex -/
def g111_tf:TFn:=⟨(sq [mk 4 (kb false)] [0,1] (.seq (.ops [mo 5 0,mo 6 1,bn 7 .sub (.t 6) (ki 1),ca 8 28 [.t 5,ki 0,.t 7],mo 4 8]) (.keep (kp [(4,0)] [] 0) .ret))),[.t 4]⟩
abbrev g111_S:=Sys.on [(28,g118_r)] []
def impl_isIndex (a_i:Int) (a_many:Int):Option (Bool):=(impl_within a_i 0 ((IntKind.i64.wrap (a_many - 1)))).bind fun r1=>some r1
@[simp] def g111_O:Bool → TV × List Blk:=fun r=>((.bool r),[])
def g111_E (a:Int × Int):List TV:=[(.int .i64 a.1),(.int .i64 a.2)]
theorem g111_run (a_i:Int) (a_many:Int) :callFn (X g111_S) g111_tf (g111_E (a_i,a_many)) [] = (impl_isIndex a_i a_many).map g111_O:=by
  rw [callFn_eq]
  simp (maxSteps:=2000000) (maxDischargeDepth:=8) -implicitDefEqProofs [g111_tf,impl_isIndex,g111_E] <;> (try simp only [map_to_bind,some_elim,g111_O])
def g111_r:Rule:=RlO g111_E (fun a=>impl_isIndex a.1 a.2) g111_O
theorem g111_ok:RuleOk Tryz.prog 87 g111_r:=ok_rlo (S:=g111_S) (tf:=g111_tf) (SysOk.on ⟨g118_ok,trivial⟩ trivial) (trE_ok (ks:=[]) Tryz.func87 (by kernel_rfl)) fun a=>g111_run a.1 a.2
@[simp] theorem g111_app (y0 y1):g111_r [(.int .i64 y0),(.int .i64 y1)] = (impl_isIndex y0 y1).map g111_O :=
  RlO_app (enc:=g111_E) (by intro a b h; simp [g111_E,Prod.ext_iff] at h ⊢; simp [h]) (y0,y1)
/-! impl.ValidDisk.2 -/
def g48_tf:TFn:=⟨(sq [bx 2 0,mk 3 (kb false)] [1,2] (.seq (.after (.ops [fa 4 0 2,ld 5 4,fa 6 0 1,ld 7 6,le 8 7,ca 9 87 [.t 5,.t 8],nt 10 9,mo 11 10,⟨(some 12),(some (11,false)),(.faddr 1 (.t 2))⟩,⟨(some 13),(some (11,false)),(.load none (.t 12))⟩,⟨(some 14),(some (11,false)),(.call 58 [.t 13])⟩,⟨(some 15),(some (11,false)),(.un .not (.t 14))⟩,pk 16 (.t 11) (kb true) (.t 15),mo 3 16]) (kp [(3,0)] [] 0)) (.keep (kp [(3,0)] [] 0) .ret))),[.t 3]⟩
abbrev g48_S:=Sys.on [(87,g111_r),(58,g110_r)] []
def impl_ValidDisk_c2 (a_p:Int × Str) (a_p':List Str) (a_p'':List (Int × Str)) (a_p''':Int) (a_p'''':Bool):Option (Bool):=(impl_isIndex a_p.1 ((a_p'.length:Int))).bind fun r1=>if ¬(r1 = true) then some true else (impl_isBlock a_p.2).bind fun r2=>some ((!r2))
@[simp] def g48_O:Bool → TV × List Blk:=fun r=>((.bool r),[])
def g48_E (a:(Int × Str) × List Str × (List (Int × Str)) × Int × Bool):List TV:=[(.agg [(.int .i64 a.1.1),(.str a.1.2)]),(.vp [(.vs (rows a.2.1)),(.vs (rows a.2.2.1)),(.int .i64 a.2.2.2.1),(.bool a.2.2.2.2)])]
theorem g48_run (a_p:Int × Str) (a_p':List Str) (a_p'':List (Int × Str)) (a_p''':Int) (a_p'''':Bool) :callFn (X g48_S) g48_tf (g48_E (a_p,a_p',a_p'',a_p''',a_p'''')) [] = (impl_ValidDisk_c2 a_p a_p' a_p'' a_p''' a_p'''').map g48_O:=by
  rw [callFn_eq]
  simp (maxSteps:=2000000) (maxDischargeDepth:=8) -implicitDefEqProofs [g48_tf,impl_ValidDisk_c2,g48_E] <;> (try simp only [map_to_bind,some_elim,g48_O])
def g48_r:Rule:=RlO g48_E (fun a=>impl_ValidDisk_c2 a.1 a.2.1 a.2.2.1 a.2.2.2.1 a.2.2.2.2) g48_O
theorem g48_ok:RuleOk Tryz.prog 86 g48_r:=ok_rlo (S:=g48_S) (tf:=g48_tf) (SysOk.on ⟨g111_ok,g110_ok,trivial⟩ trivial) (trE_ok (ks:=[]) Tryz.func86 (by kernel_rfl)) fun a=>g48_run a.1 a.2.1 a.2.2.1 a.2.2.2.1 a.2.2.2.2
@[simp] theorem g48_app (y0 y1 y2 y3 y4 y5):g48_r [(.agg [(.int .i64 y0),(.str y1)]),(.vp [(.vs (rows y2)),(.vs (rows y3)),(.int .i64 y4),(.bool y5)])] = (impl_ValidDisk_c2 ((y0,y1)) y2 y3 y4 y5).map g48_O :=
  RlO_app (enc:=g48_E) (by intro a b h; simp [g48_E,Prod.ext_iff] at h ⊢; simp [h]) ((y0,y1),y2,y3,y4,y5)
/-! slices.IndexFunc[[]impl.Put,impl.Put] -/
def g4l1_cb:TC:=(sq [bn 9 .lss (.t 8) (.t 7)] [0,1,7,8,9] (.seq (.cond (.t 9) .skip (.keep (kp [] [] 0) (.exit 0))) (.trim [0,1,7,8] (.seq (.block 1 (sq [mo 10 8,mo 5 10] [0,1,5,7,8] (sq [mo 11 1,mo 12 0,mo 13 5,ia 14 2 12 13,ln 15 2 14,oo 16 (.callv (.t 11) [.t 15])] [0,1,5,7,8,16] (.cond (.t 16) (.seq (.ops [mo 17 5,mo 4 17]) (.keep (kp [(4,0)] [] 0) .ret)) .skip)))) (.trim [0,1,7,8] (.after (.ops [bn 18 .add (.t 8) (ki 1),mo 8 18]) (kp [(0,0),(1,0),(7,0),(8,0)] [] 0)))))))
def g4l1_c:TC:=.loop [0,1,7,8] g4l1_cb
def g4_tf:TFn:=⟨(sq [mk 4 (ki 0)] [0,1] (.seq (sq [mo 6 0,le 7 6,mk 8 (ki 0)] [0,1,7,8] (.block 0 (.keep (kp [(0,0),(1,0),(7,0),(8,0)] [] 0) g4l1_c))) (.trim [] (.seq (.ops [mk 4 (ki (-1))]) (.keep (kp [(4,0)] [] 0) .ret))))),[.t 4]⟩
abbrev g4_S:=Sys.on [(86,g48_r)] []
@[reducible,simp] def g4l1_F:((Unit) ⊕ (Int)) → Out:=(Sum.elim (fun t=>(.ext 0,[],[])) (fun t=>(.ret,[(4,(.int .i64 t))],[])))
def slices_IndexFunc_impl_Put_impl_Put__ValidDisk_c2_l1_b (v1:List (Int × Str)) (v2:List Str) (v3:List (Int × Str)) (v4:Int) (v5:Bool) (v6:Int) (v7:Int):Option ((Int) ⊕ ((Unit) ⊕ (Int))):=if v7 < v6 then if 0 ≤ v7 then (v1[(v7).toNat]?).bind fun x8=>(impl_ValidDisk_c2 x8 v2 v3 v4 v5).bind fun r9=>if r9 = true then some (.inr (.inr v7)) else some (.inl ((IntKind.i64.wrap (v7 + 1)))) else none else some (.inr (.inl ()))
theorem g4l1_b_eq  (v1:List (Int × Str)) (v2:List Str) (v3:List (Int × Str)) (v4:Int) (v5:Bool) (v6:Int) (v7:Int):X g4_S g4l1_cb (keepEnv [0,1,7,8] [(0,(.vs (rows v1))),(1,(.fn 86 [] [(.vp [(.vs (rows v2)),(.vs (rows v3)),(.int .i64 v4),(.bool v5)])])),(7,(.int .i64 v6)),(8,(.int .i64 v7))]) [] = (slices_IndexFunc_impl_Put_impl_Put__ValidDisk_c2_l1_b v1 v2 v3 v4 v5 v6 v7).map (Sum.elim (fun s=>(TX.nrm,[(0,(.vs (rows v1))),(1,(.fn 86 [] [(.vp [(.vs (rows v2)),(.vs (rows v3)),(.int .i64 v4),(.bool v5)])])),(7,(.int .i64 v6)),(8,(.int .i64 s))],[])) g4l1_F):=by
  simp (maxSteps:=2000000) (maxDischargeDepth:=8) -implicitDefEqProofs [g4l1_cb,slices_IndexFunc_impl_Put_impl_Put__ValidDisk_c2_l1_b] <;> (try simp only [map_to_bind,some_elim,g4l1_F])
def slices_IndexFunc_impl_Put_impl_Put__ValidDisk_c2_l1 (v1:List (Int × Str)) (v2:List Str) (v3:List (Int × Str)) (v4:Int) (v5:Bool) (v6:Int) (s:Int):Option ((Unit) ⊕ (Int)):=loopO (fun s=>slices_IndexFunc_impl_Put_impl_Put__ValidDisk_c2_l1_b v1 v2 v3 v4 v5 v6 s) s
@[simp] theorem g4l1_eq (y0 y1 y2 y3 y4 y5 y6):X g4_S g4l1_c [(0,(.vs (rows y0))),(1,(.fn 86 [] [(.vp [(.vs (rows y1)),(.vs (rows y2)),(.int .i64 y3),(.bool y4)])])),(7,(.int .i64 y5)),(8,(.int .i64 y6))] [] = (slices_IndexFunc_impl_Put_impl_Put__ValidDisk_c2_l1 y0 y1 y2 y3 y4 y5 y6).map g4l1_F:=by
  exact loop_X _ _ _ _ (by intro r; first | (simp; done) | (rcases r with r | r <;> simp; done) | (rcases r with r | r | r <;> simp; done) | (rcases r with r | r | r | r <;> simp)) (fun s=>g4l1_b_eq  y0 y1 y2 y3 y4 y5 s) y6
def slices_IndexFunc_impl_Put_impl_Put__ValidDisk_c2 (a_s:List (Int × Str)) (a_f:List Str) (a_f':List (Int × Str)) (a_f'':Int) (a_f''':Bool):Option (Int):=(slices_IndexFunc_impl_Put_impl_Put__ValidDisk_c2_l1 a_s a_f a_f' a_f'' a_f''' ((a_s.length:Int)) 0).bind fun r10=>Sum.elim (fun u11=>some ((-1))) (fun u12=>some u12) r10
@[simp] def g4_O:Int → TV × List Blk:=fun r=>((.int .i64 r),[])
def g4_E (a:(List (Int × Str)) × List Str × (List (Int × Str)) × Int × Bool):List TV:=[(.vs (rows a.1)),(.fn 86 [] [(.vp [(.vs (rows a.2.1)),(.vs (rows a.2.2.1)),(.int .i64 a.2.2.2.1),(.bool a.2.2.2.2)])])]
theorem g4_run (a_s:List (Int × Str)) (a_f:List Str) (a_f':List (Int × Str)) (a_f'':Int) (a_f''':Bool) :callFn (X g4_S) g4_tf (g4_E (a_s,a_f,a_f',a_f'',a_f''')) [] = (slices_IndexFunc_impl_Put_impl_Put__ValidDisk_c2 a_s a_f a_f' a_f'' a_f''').map g4_O:=by
  rw [callFn_eq]
  simp (maxSteps:=2000000) (maxDischargeDepth:=8) -implicitDefEqProofs [g4_tf,slices_IndexFunc_impl_Put_impl_Put__ValidDisk_c2,g4_E] <;> (try simp only [map_to_bind,some_elim,g4_O])
def g4_r:Rule:=RlO g4_E (fun a=>slices_IndexFunc_impl_Put_impl_Put__ValidDisk_c2 a.1 a.2.1 a.2.2.1 a.2.2.2.1 a.2.2.2.2) g4_O
theorem g4_ok:RuleOk Tryz.prog 111 g4_r:=ok_rlo (S:=g4_S) (tf:=g4_tf) (SysOk.on ⟨g48_ok,trivial⟩ trivial) (trE_ok (ks:=[[0,1,7,8]]) Tryz.func111 (by kernel_rfl)) fun a=>g4_run a.1 a.2.1 a.2.2.1 a.2.2.2.1 a.2.2.2.2
@[simp] theorem g4_app (y0 y1 y2 y3 y4):g4_r [(.vs (rows y0)),(.fn 86 [] [(.vp [(.vs (rows y1)),(.vs (rows y2)),(.int .i64 y3),(.bool y4)])])] = (slices_IndexFunc_impl_Put_impl_Put__ValidDisk_c2 y0 y1 y2 y3 y4).map g4_O :=
  RlO_app (enc:=g4_E) (by intro a b h; simp [g4_E,Prod.ext_iff] at h ⊢; simp [h]) (y0,y1,y2,y3,y4)
/-! slices.ContainsFunc[[]impl.Put,impl.Put] -/
def g3_tf:TFn:=⟨(sq [mk 4 (kb false)] [0,1] (.seq (.ops [mo 5 0,mo 6 1,ca 7 111 [.t 5,.t 6],bn 8 .geq (.t 7) (ki 0),mo 4 8]) (.keep (kp [(4,0)] [] 0) .ret))),[.t 4]⟩
abbrev g3_S:=Sys.on [(111,g4_r)] []
def slices_ContainsFunc_impl_Put_impl_Put__ValidDisk_c2 (a_s:List (Int × Str)) (a_f:List Str) (a_f':List (Int × Str)) (a_f'':Int) (a_f''':Bool):Option (Bool):=(slices_IndexFunc_impl_Put_impl_Put__ValidDisk_c2 a_s a_f a_f' a_f'' a_f''').bind fun r1=>some ((decide (r1 ≥ 0)))
@[simp] def g3_O:Bool → TV × List Blk:=fun r=>((.bool r),[])
def g3_E (a:(List (Int × Str)) × List Str × (List (Int × Str)) × Int × Bool):List TV:=[(.vs (rows a.1)),(.fn 86 [] [(.vp [(.vs (rows a.2.1)),(.vs (rows a.2.2.1)),(.int .i64 a.2.2.2.1),(.bool a.2.2.2.2)])])]
theorem g3_run (a_s:List (Int × Str)) (a_f:List Str) (a_f':List (Int × Str)) (a_f'':Int) (a_f''':Bool) :callFn (X g3_S) g3_tf (g3_E (a_s,a_f,a_f',a_f'',a_f''')) [] = (slices_ContainsFunc_impl_Put_impl_Put__ValidDisk_c2 a_s a_f a_f' a_f'' a_f''').map g3_O:=by
  rw [callFn_eq]
  simp (maxSteps:=2000000) (maxDischargeDepth:=8) -implicitDefEqProofs [g3_tf,slices_ContainsFunc_impl_Put_impl_Put__ValidDisk_c2,g3_E] <;> (try simp only [map_to_bind,some_elim,g3_O])
def g3_r:Rule:=RlO g3_E (fun a=>slices_ContainsFunc_impl_Put_impl_Put__ValidDisk_c2 a.1 a.2.1 a.2.2.1 a.2.2.2.1 a.2.2.2.2) g3_O
theorem g3_ok:RuleOk Tryz.prog 85 g3_r:=ok_rlo (S:=g3_S) (tf:=g3_tf) (SysOk.on ⟨g4_ok,trivial⟩ trivial) (trE_ok (ks:=[]) Tryz.func85 (by kernel_rfl)) fun a=>g3_run a.1 a.2.1 a.2.2.1 a.2.2.2.1 a.2.2.2.2
@[simp] theorem g3_app (y0 y1 y2 y3 y4):g3_r [(.vs (rows y0)),(.fn 86 [] [(.vp [(.vs (rows y1)),(.vs (rows y2)),(.int .i64 y3),(.bool y4)])])] = (slices_ContainsFunc_impl_Put_impl_Put__ValidDisk_c2 y0 y1 y2 y3 y4).map g3_O :=
  RlO_app (enc:=g3_E) (by intro a b h; simp [g3_E,Prod.ext_iff] at h ⊢; simp [h]) (y0,y1,y2,y3,y4)
/-! impl.ValidDisk -/
def g84_tf:TFn:=⟨(sq [bx 1 0,mk 2 (kb false)] [1] (.seq (sq [fa 3 0 1,ld 4 3,le 5 4,ca 6 28 [.t 5,ki 16,ki 256],nt 7 6,mo 8 7,⟨(some 9),(some (8,false)),(.faddr 1 (.t 1))⟩,⟨(some 10),(some (8,false)),(.load none (.t 9))⟩,⟨(some 11),(some (8,false)),(.len false (.t 10))⟩,⟨(some 12),(some (8,false)),(.bin .num .gtr (.t 11) (ki 600))⟩,pk 13 (.t 8) (kb true) (.t 12),mo 14 13,⟨(some 15),(some (14,false)),(.faddr 2 (.t 1))⟩,⟨(some 16),(some (14,false)),(.load none (.t 15))⟩,⟨(some 17),(some (14,false)),(.call 28 [.t 16,(ki (-1)),ki 100000])⟩,⟨(some 18),(some (14,false)),(.un .not (.t 17))⟩,pk 19 (.t 14) (kb true) (.t 18)] [1,19] (.cond (.t 19) (.seq (.ops [mk 2 (kb false)]) (.keep (kp [(2,0)] [] 0) .ret)) .skip)) (.trim [1] (.seq (sq [fa 20 0 1,ld 21 20,oo 22 (.call 83 [.t 21,(.c (.fn 84 [] []))])] [1,22] (.cond (.t 22) (.seq (.ops [mk 2 (kb false)]) (.keep (kp [(2,0)] [] 0) .ret)) .skip)) (.trim [1] (.seq (.ops [fa 23 1 1,ld 24 23,oo 25 (.mkfn 86 [] [.t 1]),ca 26 85 [.t 24,.t 25],nt 27 26,mo 2 27]) (.keep (kp [(2,0)] [] 0) .ret))))))),[.t 2]⟩
abbrev g84_S:=Sys.on [(28,g118_r),(83,g5_r),(85,g3_r)] []
def impl_ValidDisk (a_d:K0):Option (Bool):=(impl_within ((a_d.1.length:Int)) 16 256).bind fun r1=>if ¬(r1 = true) then some false else if (a_d.2.1.length:Int) > 600 then some false else (impl_within a_d.2.2.1 ((-1)) 100000).bind fun r2=>if ¬(r2 = true) then some false else (slices_ContainsFunc_string_string__ValidDisk_c1 a_d.1).bind fun r3=>if r3 = true then some false else (slices_ContainsFunc_impl_Put_impl_Put__ValidDisk_c2 a_d.2.1 a_d.1 a_d.2.1 a_d.2.2.1 a_d.2.2.2).bind fun r4=>some ((!r4))
@[simp] def g84_O:Bool → TV × List Blk:=fun r=>((.bool r),[])
def g84_E (a:K0):List TV:=[(.agg [(.vs (rows a.1)),(.vs (rows a.2.1)),(.int .i64 a.2.2.1),(.bool a.2.2.2)])]
theorem g84_run (a_d:K0) :callFn (X g84_S) g84_tf (g84_E a_d) [] = (impl_ValidDisk a_d).map g84_O:=by
  rw [callFn_eq]
  simp (maxSteps:=2000000) (maxDischargeDepth:=8) -implicitDefEqProofs [g84_tf,impl_ValidDisk,g84_E] <;> (try simp only [map_to_bind,some_elim,g84_O])
def g84_r:Rule:=RlO g84_E (fun a=>impl_ValidDisk a) g84_O
theorem g84_ok:RuleOk Tryz.prog 56 g84_r:=ok_rlo (S:=g84_S) (tf:=g84_tf) (SysOk.on ⟨g118_ok,g5_ok,g3_ok,trivial⟩ trivial) (trE_ok (ks:=[]) Tryz.func56 (by kernel_rfl)) fun a=>g84_run a
@[simp] theorem g84_app (y0 y1 y2 y3):g84_r [(.agg [(.vs (rows y0)),(.vs (rows y1)),(.int .i64 y2),(.bool y3)])] = (impl_ValidDisk ((y0,y1,y2,y3))).map g84_O :=
  RlO_app (enc:=g84_E) (by intro a b h; simp [g84_E,Prod.ext_iff] at h ⊢; simp [h]) ((y0,y1,y2,y3))
/-! impl.ValidSuper -/
def g66_tf:TFn:=⟨(sq [bx 1 0,mk 2 (kb false)] [1] (.seq (.after (.ops [fa 3 0 1,ld 4 3,ca 5 28 [.t 4,ki 16,ki 256],mo 6 5,⟨(some 7),(some (6,true)),(.faddr 1 (.t 1))⟩,⟨(some 8),(some (6,true)),(.load none (.t 7))⟩,⟨(some 9),(some (6,true)),(.faddr 0 (.t 1))⟩,⟨(some 10),(some (6,true)),(.load none (.t 9))⟩,⟨(some 11),(some (6,true)),(.bin .num .sub (.t 10) (ki 4))⟩,⟨(some 12),(some (6,true)),(.mm false (ki 64) (.t 11))⟩,⟨(some 13),(some (6,true)),(.call 28 [.t 8,ki 8,.t 12])⟩,pk 14 (.t 6) (.t 13) (kb false),mo 15 14,⟨(some 16),(some (15,true)),(.faddr 2 (.t 1))⟩,⟨(some 17),(some (15,true)),(.load none (.t 16))⟩,⟨(some 18),(some (15,true)),(.call 28 [.t 17,ki 0,ki 1000000000000])⟩,pk 19 (.t 15) (.t 18) (kb false),mo 20 19,⟨(some 21),(some (20,true)),(.faddr 3 (.t 1))⟩,⟨(some 22),(some (20,true)),(.load none (.t 21))⟩,⟨(some 23),(some (20,true)),(.call 28 [.t 22,ki 0,ki 1000000000000])⟩,pk 24 (.t 20) (.t 23) (kb false),mo 2 24]) (kp [(2,0)] [] 0)) (.keep (kp [(2,0)] [] 0) .ret))),[.t 2]⟩
abbrev g66_S:=Sys.on [(28,g118_r)] []
def impl_ValidSuper (a_s:Int × Int × Int × Int):Option (Bool):=(impl_within a_s.1 16 256).bind fun r1=>if r1 = true then (impl_within a_s.2.1 8 ((min 64 ((IntKind.i64.wrap (a_s.1 - 4)))))).bind fun r2=>if r2 = true then (impl_within a_s.2.2.1 0 1000000000000).bind fun r3=>if r3 = true then (impl_within a_s.2.2.2 0 1000000000000).bind fun r4=>some r4 else some false else some false else some false
@[simp] def g66_O:Bool → TV × List Blk:=fun r=>((.bool r),[])
def g66_E (a:(Int × Int × Int × Int)):List TV:=[(.agg [(.int .i64 a.1),(.int .i64 a.2.1),(.int .i64 a.2.2.1),(.int .i64 a.2.2.2)])]
theorem g66_run (a_s:Int × Int × Int × Int) :callFn (X g66_S) g66_tf (g66_E a_s) [] = (impl_ValidSuper a_s).map g66_O:=by
  rw [callFn_eq]
  simp (maxSteps:=2000000) (maxDischargeDepth:=8) -implicitDefEqProofs [g66_tf,impl_ValidSuper,g66_E] <;> (try simp only [map_to_bind,some_elim,g66_O])
def g66_r:Rule:=RlO g66_E (fun a=>impl_ValidSuper a) g66_O
theorem g66_ok:RuleOk Tryz.prog 57 g66_r:=ok_rlo (S:=g66_S) (tf:=g66_tf) (SysOk.on ⟨g118_ok,trivial⟩ trivial) (trE_ok (ks:=[]) Tryz.func57 (by kernel_rfl)) fun a=>g66_run a
@[simp] theorem g66_app (y0 y1 y2 y3):g66_r [(.agg [(.int .i64 y0),(.int .i64 y1),(.int .i64 y2),(.int .i64 y3)])] = (impl_ValidSuper ((y0,y1,y2,y3))).map g66_O :=
  RlO_app (enc:=g66_E) (by intro a b h; simp [g66_E,Prod.ext_iff] at h ⊢; simp [h]) ((y0,y1,y2,y3))
/-! impl.superFits -/
def g85_tf:TFn:=⟨(sq [bx 2 0,bx 3 1,mk 4 (kb false)] [2,3] (.seq (.after (.ops [ln 5 4 2,ca 6 56 [.t 5],mo 7 6,⟨(some 8),(some (7,true)),(.load (some 4) (.t 3))⟩,⟨(some 9),(some (7,true)),(.call 57 [.t 8])⟩,pk 10 (.t 7) (.t 9) (kb false),mo 11 10,⟨(some 12),(some (11,true)),(.faddr 0 (.t 3))⟩,⟨(some 13),(some (11,true)),(.load none (.t 12))⟩,⟨(some 14),(some (11,true)),(.faddr 0 (.t 2))⟩,⟨(some 15),(some (11,true)),(.load none (.t 14))⟩,⟨(some 16),(some (11,true)),(.len false (.t 15))⟩,⟨(some 17),(some (11,true)),(.bin .num .eql (.t 13) (.t 16))⟩,pk 18 (.t 11) (.t 17) (kb false),mo 4 18]) (kp [(4,0)] [] 0)) (.keep (kp [(4,0)] [] 0) .ret))),[.t 4]⟩
abbrev g85_S:=Sys.on [(56,g84_r),(57,g66_r)] []
def impl_superFits (a_d:K0) (a_s:Int × Int × Int × Int):Option (Bool):=(impl_ValidDisk a_d).bind fun r1=>if r1 = true then (impl_ValidSuper a_s).bind fun r2=>if r2 = true then some ((decide (a_s.1 = (a_d.1.length:Int)))) else some false else some false
@[simp] def g85_O:Bool → TV × List Blk:=fun r=>((.bool r),[])
def g85_E (a:K0 × (Int × Int × Int × Int)):List TV:=[(.agg [(.vs (rows a.1.1)),(.vs (rows a.1.2.1)),(.int .i64 a.1.2.2.1),(.bool a.1.2.2.2)]),(.agg [(.int .i64 a.2.1),(.int .i64 a.2.2.1),(.int .i64 a.2.2.2.1),(.int .i64 a.2.2.2.2)])]
theorem g85_run (a_d:K0) (a_s:Int × Int × Int × Int) :callFn (X g85_S) g85_tf (g85_E (a_d,a_s)) [] = (impl_superFits a_d a_s).map g85_O:=by
  rw [callFn_eq]
  simp (maxSteps:=2000000) (maxDischargeDepth:=8) -implicitDefEqProofs [g85_tf,impl_superFits,g85_E] <;> (try simp only [map_to_bind,some_elim,g85_O])
def g85_r:Rule:=RlO g85_E (fun a=>impl_superFits a.1 a.2) g85_O
theorem g85_ok:RuleOk Tryz.prog 27 g85_r:=ok_rlo (S:=g85_S) (tf:=g85_tf) (SysOk.on ⟨g84_ok,g66_ok,trivial⟩ trivial) (trE_ok (ks:=[]) Tryz.func27 (by kernel_rfl)) fun a=>g85_run a.1 a.2
@[simp] theorem g85_app (y0 y1 y2 y3 y4 y5 y6 y7):g85_r [(.agg [(.vs (rows y0)),(.vs (rows y1)),(.int .i64 y2),(.bool y3)]),(.agg [(.int .i64 y4),(.int .i64 y5),(.int .i64 y6),(.int .i64 y7)])] = (impl_superFits ((y0,y1,y2,y3)) ((y4,y5,y6,y7))).map g85_O :=
  RlO_app (enc:=g85_E) (by intro a b h; simp [g85_E,Prod.ext_iff] at h ⊢; simp [h]) ((y0,y1,y2,y3),(y4,y5,y6,y7))
/-! impl.ValidPages -/
def g67l1_cb:TC:=(sq [bn 8 .lss (.t 7) (.t 6)] [0,5,6,7,8] (.seq (.cond (.t 8) .skip (.keep (kp [(0,0)] [] 0) (.exit 0))) (.trim [0,5,6,7] (.seq (.block 1 (sq [mo 9 7,ia 10 2 5 7,ln 11 2 10,oo 4 (.alloc [(.int .i64 0),(.str [])]),mo 3 9,⟨none,none,(.store 2 (.t 4) (.t 11))⟩] [0,3,4,5,6,7] (.seq (.draw [([],fa 12 0 4),([0],ld 13 12),([0,1],ca 14 28 [.t 13,ki 0,ki 255]),([0,1,2],nt 15 14),([0,1,2,3],mo 16 15),([0,1,2,3,4],⟨(some 17),(some (16,false)),(.mv (.t 3))⟩),([0,1,2,3,4,5],⟨(some 18),(some (16,false)),(.bin .num .gtr (.t 17) (ki 0))⟩),([0,1,2,3,4,5,6],⟨(some 19),(some (16,false)),(.mv (.t 18))⟩),([0,1,2,3,4,5,6,7],⟨(some 20),(some (19,true)),(.faddr 0 (.t 4))⟩),([0,1,2,3,4,5,6,7,8],⟨(some 21),(some (19,true)),(.load none (.t 20))⟩),([0,1,2,3,4,5,6,7],⟨(some 22),(some (19,true)),(.mv (.t 0))⟩),([0,1,2,3,4,5,6,7],⟨(some 23),(some (19,true)),(.mv (.t 3))⟩),([0,1,2,3,4,5,6,7,11],⟨(some 24),(some (19,true)),(.bin .num .sub (.t 23) (ki 1))⟩),([0,1,2,3,4,5,6,7,10,11,12],⟨(some 25),(some (19,true)),(.iaddr 2 (.t 22) (.t 24))⟩),([0,1,2,3,4,5,6,7,10,11,12,13],⟨(some 26),(some (19,true)),(.faddr 0 (.t 25))⟩),([0,1,2,3,4,5,6,7,10,11,12,13,14],⟨(some 27),(some (19,true)),(.load none (.t 26))⟩)] [⟨(some 28),(some (19,true)),(.bin .num .leq (.t 21) (.t 27))⟩,⟨(some 29),(some (16,false)),(.pick (.t 19) (.t 28) (kb false))⟩,pk 30 (.t 16) (kb true) (.t 29),mo 31 30,⟨(some 32),(some (31,false)),(.faddr 1 (.t 4))⟩,⟨(some 33),(some (31,false)),(.load none (.t 32))⟩,⟨(some 34),(some (31,false)),(.call 58 [.t 33])⟩,⟨(some 35),(some (31,false)),(.un .not (.t 34))⟩,pk 36 (.t 31) (kb true) (.t 35)]) (.trim [0,5,6,7,36] (.cond (.t 36) (.seq (.ops [mk 2 (kb false)]) (.keep (kp [(2,0)] [] 0) .ret)) (.keep (kp [(0,0),(5,0),(6,0),(7,0)] [] 0) .skip)))))) (.trim [0,5,6,7] (.after (.ops [bn 37 .add (.t 7) (ki 1),mo 7 37]) (kp [(0,0),(5,0),(6,0),(7,0)] [] 0)))))))
def g67l1_c:TC:=.loop [0,5,6,7] g67l1_cb
def g67_tf:TFn:=⟨(sq [mk 2 (kb false)] [0] (.seq (sq [mo 5 0,le 6 5,mk 7 (ki 0)] [0,5,6,7] (.block 0 (.keep (kp [(0,0),(5,0),(6,0),(7,0)] [] 0) g67l1_c))) (.trim [0] (.seq (.ops [mo 38 0,le 39 38,bn 40 .leq (.t 39) (ki 256),mo 2 40]) (.keep (kp [(2,0)] [] 0) .ret))))),[.t 2]⟩
abbrev g67_S:=Sys.on [(28,g118_r),(58,g110_r)] []
@[reducible,simp] def g67l1_F:(((List (Int × Str))) ⊕ (Bool)) → Out:=(Sum.elim (fun t=>(.ext 0,[(0,(.vs (rows t)))],[])) (fun t=>(.ret,[(2,(.bool t))],[])))
def impl_ValidPages_l1_b (v1:List (Int × Str)) (v2:List (Int × Str)) (v3:Int) (v4:Int):Option ((Int) ⊕ (((List (Int × Str))) ⊕ (Bool))):=if v4 < v3 then if 0 ≤ v4 then (v2[(v4).toNat]?).bind fun x5=>(impl_within x5.1 0 255).bind fun r6=>if ¬(r6 = true) then some (.inr (.inr false)) else if v4 > 0 then if 0 ≤ (IntKind.i64.wrap (v4 - 1)) then (v1[((IntKind.i64.wrap (v4 - 1))).toNat]?).bind fun x7=>if x5.1 ≤ x7.1 then some (.inr (.inr false)) else (impl_isBlock x5.2).bind fun r8=>if ¬(r8 = true) then some (.inr (.inr false)) else some (.inl ((IntKind.i64.wrap (v4 + 1)))) else none else (impl_isBlock x5.2).bind fun r9=>if ¬(r9 = true) then some (.inr (.inr false)) else some (.inl ((IntKind.i64.wrap (v4 + 1)))) else none else some (.inr (.inl v1))
theorem g67l1_b_eq  (v1:List (Int × Str)) (v2:List (Int × Str)) (v3:Int) (v4:Int):X g67_S g67l1_cb (keepEnv [0,5,6,7] [(0,(.vs (rows v1))),(5,(.vs (rows v2))),(6,(.int .i64 v3)),(7,(.int .i64 v4))]) [] = (impl_ValidPages_l1_b v1 v2 v3 v4).map (Sum.elim (fun s=>(TX.nrm,[(0,(.vs (rows v1))),(5,(.vs (rows v2))),(6,(.int .i64 v3)),(7,(.int .i64 s))],[])) g67l1_F):=by
  simp (maxSteps:=2000000) (maxDischargeDepth:=8) -implicitDefEqProofs [g67l1_cb,impl_ValidPages_l1_b] <;> (try simp only [map_to_bind,some_elim,g67l1_F])
def impl_ValidPages_l1 (v1:List (Int × Str)) (v2:List (Int × Str)) (v3:Int) (s:Int):Option (((List (Int × Str))) ⊕ (Bool)):=loopO (fun s=>impl_ValidPages_l1_b v1 v2 v3 s) s
@[simp] theorem g67l1_eq (y0 y1 y2 y3):X g67_S g67l1_c [(0,(.vs (rows y0))),(5,(.vs (rows y1))),(6,(.int .i64 y2)),(7,(.int .i64 y3))] [] = (impl_ValidPages_l1 y0 y1 y2 y3).map g67l1_F:=by
  exact loop_X _ _ _ _ (by intro r; first | (simp; done) | (rcases r with r | r <;> simp; done) | (rcases r with r | r | r <;> simp; done) | (rcases r with r | r | r | r <;> simp)) (fun s=>g67l1_b_eq  y0 y1 y2 s) y3
def impl_ValidPages (a_list:List (Int × Str)):Option (Bool):=(impl_ValidPages_l1 a_list a_list ((a_list.length:Int)) 0).bind fun r10=>Sum.elim (fun u11=>some ((decide ((u11.length:Int) ≤ 256)))) (fun u12=>some u12) r10
@[simp] def g67_O:Bool → TV × List Blk:=fun r=>((.bool r),[])
def g67_E (a:(List (Int × Str))):List TV:=[(.vs (rows a))]
theorem g67_run (a_list:List (Int × Str)) :callFn (X g67_S) g67_tf (g67_E a_list) [] = (impl_ValidPages a_list).map g67_O:=by
  rw [callFn_eq]
  simp (maxSteps:=2000000) (maxDischargeDepth:=8) -implicitDefEqProofs [g67_tf,impl_ValidPages,g67_E] <;> (try simp only [map_to_bind,some_elim,g67_O])
def g67_r:Rule:=RlO g67_E (fun a=>impl_ValidPages a) g67_O
theorem g67_ok:RuleOk Tryz.prog 29 g67_r:=ok_rlo (S:=g67_S) (tf:=g67_tf) (SysOk.on ⟨g118_ok,g110_ok,trivial⟩ trivial) (trE_ok (ks:=[[0,5,6,7],[16]]) Tryz.func29 (by kernel_rfl)) fun a=>g67_run a
@[simp] theorem g67_app (y0):g67_r [(.vs (rows y0))] = (impl_ValidPages y0).map g67_O :=
  RlO_app (enc:=g67_E) (by intro a b h; simp [g67_E,Prod.ext_iff] at h ⊢; simp [h]) y0
/-! impl.AreaBlock -/
def g86_tf:TFn:=⟨(sq [bx 1 0,mk 2 (ki 0)] [1] (.seq (sq [ln 3 4 1,ca 4 57 [.t 3],nt 5 4] [1,5] (.cond (.t 5) (.seq (.ops [mk 2 (ki 0)]) (.keep (kp [(2,0)] [] 0) .ret)) .skip)) (.trim [1] (.seq (.ops [fa 6 1 1,ld 7 6,bn 8 .add (ki 2) (.t 7),mo 2 8]) (.keep (kp [(2,0)] [] 0) .ret))))),[.t 2]⟩
abbrev g86_S:=Sys.on [(57,g66_r)] []
def impl_AreaBlock (a_s:Int × Int × Int × Int):Option (Int):=(impl_ValidSuper a_s).bind fun r1=>if ¬(r1 = true) then some 0 else some ((IntKind.i64.wrap (2 + a_s.2.1)))
@[simp] def g86_O:Int → TV × List Blk:=fun r=>((.int .i64 r),[])
def g86_E (a:(Int × Int × Int × Int)):List TV:=[(.agg [(.int .i64 a.1),(.int .i64 a.2.1),(.int .i64 a.2.2.1),(.int .i64 a.2.2.2)])]
theorem g86_run (a_s:Int × Int × Int × Int) :callFn (X g86_S) g86_tf (g86_E a_s) [] = (impl_AreaBlock a_s).map g86_O:=by
  rw [callFn_eq]
  simp (maxSteps:=2000000) (maxDischargeDepth:=8) -implicitDefEqProofs [g86_tf,impl_AreaBlock,g86_E] <;> (try simp only [map_to_bind,some_elim,g86_O])
def g86_r:Rule:=RlO g86_E (fun a=>impl_AreaBlock a) g86_O
theorem g86_ok:RuleOk Tryz.prog 61 g86_r:=ok_rlo (S:=g86_S) (tf:=g86_tf) (SysOk.on ⟨g66_ok,trivial⟩ trivial) (trE_ok (ks:=[]) Tryz.func61 (by kernel_rfl)) fun a=>g86_run a
@[simp] theorem g86_app (y0 y1 y2 y3):g86_r [(.agg [(.int .i64 y0),(.int .i64 y1),(.int .i64 y2),(.int .i64 y3)])] = (impl_AreaBlock ((y0,y1,y2,y3))).map g86_O :=
  RlO_app (enc:=g86_E) (by intro a b h; simp [g86_E,Prod.ext_iff] at h ⊢; simp [h]) ((y0,y1,y2,y3))
/-! (impl.Super).inArea.1 -/
def g25_tf:TFn:=⟨(sq [bx 2 0,mk 3 (kb false)] [1,2] (.seq (.draw [([],fa 4 0 2),([0],ld 5 4),([],ln 6 4 1),([2],ca 7 61 [.t 6]),([],fa 8 0 1),([4],ld 9 8),([4,5],bn 10 .sub (.t 9) (ki 1))] [ca 11 28 [.t 5,.t 7,.t 10],nt 12 11,mo 3 12]) (.keep (kp [(3,0)] [] 0) .ret))),[.t 3]⟩
abbrev g25_S:=Sys.on [(61,g86_r),(28,g118_r)] []
def impl_Super_inArea_c1 (a_p:Int × Str) (a_p':Int) (a_p'':Int) (a_p''':Int) (a_p'''':Int):Option (Bool):=(impl_AreaBlock ((a_p',a_p'',a_p''',a_p''''))).bind fun r1=>(impl_within a_p.1 r1 ((IntKind.i64.wrap (a_p' - 1)))).bind fun r2=>some ((!r2))
@[simp] def g25_O:Bool → TV × List Blk:=fun r=>((.bool r),[])
def g25_E (a:(Int × Str) × Int × Int × Int × Int):List TV:=[(.agg [(.int .i64 a.1.1),(.str a.1.2)]),(.vp [(.int .i64 a.2.1),(.int .i64 a.2.2.1),(.int .i64 a.2.2.2.1),(.int .i64 a.2.2.2.2)])]
theorem g25_run (a_p:Int × Str) (a_p':Int) (a_p'':Int) (a_p''':Int) (a_p'''':Int) :callFn (X g25_S) g25_tf (g25_E (a_p,a_p',a_p'',a_p''',a_p'''')) [] = (impl_Super_inArea_c1 a_p a_p' a_p'' a_p''' a_p'''').map g25_O:=by
  rw [callFn_eq]
  simp (maxSteps:=2000000) (maxDischargeDepth:=8) -implicitDefEqProofs [g25_tf,impl_Super_inArea_c1,g25_E] <;> (try simp only [map_to_bind,some_elim,g25_O])
def g25_r:Rule:=RlO g25_E (fun a=>impl_Super_inArea_c1 a.1 a.2.1 a.2.2.1 a.2.2.2.1 a.2.2.2.2) g25_O
theorem g25_ok:RuleOk Tryz.prog 60 g25_r:=ok_rlo (S:=g25_S) (tf:=g25_tf) (SysOk.on ⟨g86_ok,g118_ok,trivial⟩ trivial) (trE_ok (ks:=[[7]]) Tryz.func60 (by kernel_rfl)) fun a=>g25_run a.1 a.2.1 a.2.2.1 a.2.2.2.1 a.2.2.2.2
@[simp] theorem g25_app (y0 y1 y2 y3 y4 y5):g25_r [(.agg [(.int .i64 y0),(.str y1)]),(.vp [(.int .i64 y2),(.int .i64 y3),(.int .i64 y4),(.int .i64 y5)])] = (impl_Super_inArea_c1 ((y0,y1)) y2 y3 y4 y5).map g25_O :=
  RlO_app (enc:=g25_E) (by intro a b h; simp [g25_E,Prod.ext_iff] at h ⊢; simp [h]) ((y0,y1),y2,y3,y4,y5)
/-! slices.IndexFunc[[]impl.Page,impl.Page] -/
def g2l1_cb:TC:=(sq [bn 9 .lss (.t 8) (.t 7)] [0,1,7,8,9] (.seq (.cond (.t 9) .skip (.keep (kp [] [] 0) (.exit 0))) (.trim [0,1,7,8] (.seq (.block 1 (sq [mo 10 8,mo 5 10] [0,1,5,7,8] (sq [mo 11 1,mo 12 0,mo 13 5,ia 14 2 12 13,ln 15 2 14,oo 16 (.callv (.t 11) [.t 15])] [0,1,5,7,8,16] (.cond (.t 16) (.seq (.ops [mo 17 5,mo 4 17]) (.keep (kp [(4,0)] [] 0) .ret)) .skip)))) (.trim [0,1,7,8] (.after (.ops [bn 18 .add (.t 8) (ki 1),mo 8 18]) (kp [(0,0),(1,0),(7,0),(8,0)] [] 0)))))))
def g2l1_c:TC:=.loop [0,1,7,8] g2l1_cb
def g2_tf:TFn:=⟨(sq [mk 4 (ki 0)] [0,1] (.seq (sq [mo 6 0,le 7 6,mk 8 (ki 0)] [0,1,7,8] (.block 0 (.keep (kp [(0,0),(1,0),(7,0),(8,0)] [] 0) g2l1_c))) (.trim [] (.seq (.ops [mk 4 (ki (-1))]) (.keep (kp [(4,0)] [] 0) .ret))))),[.t 4]⟩
abbrev g2_S:=Sys.on [(60,g25_r)] []
@[reducible,simp] def g2l1_F:((Unit) ⊕ (Int)) → Out:=(Sum.elim (fun t=>(.ext 0,[],[])) (fun t=>(.ret,[(4,(.int .i64 t))],[])))
def slices_IndexFunc_impl_Page_impl_Page__Super_inArea_c1_l1_b (v1:List (Int × Str)) (v2:Int) (v3:Int) (v4:Int) (v5:Int) (v6:Int) (v7:Int):Option ((Int) ⊕ ((Unit) ⊕ (Int))):=if v7 < v6 then if 0 ≤ v7 then (v1[(v7).toNat]?).bind fun x8=>(impl_Super_inArea_c1 x8 v2 v3 v4 v5).bind fun r9=>if r9 = true then some (.inr (.inr v7)) else some (.inl ((IntKind.i64.wrap (v7 + 1)))) else none else some (.inr (.inl ()))
theorem g2l1_b_eq  (v1:List (Int × Str)) (v2:Int) (v3:Int) (v4:Int) (v5:Int) (v6:Int) (v7:Int):X g2_S g2l1_cb (keepEnv [0,1,7,8] [(0,(.vs (rows v1))),(1,(.fn 60 [] [(.vp [(.int .i64 v2),(.int .i64 v3),(.int .i64 v4),(.int .i64 v5)])])),(7,(.int .i64 v6)),(8,(.int .i64 v7))]) [] = (slices_IndexFunc_impl_Page_impl_Page__Super_inArea_c1_l1_b v1 v2 v3 v4 v5 v6 v7).map (Sum.elim (fun s=>(TX.nrm,[(0,(.vs (rows v1))),(1,(.fn 60 [] [(.vp [(.int .i64 v2),(.int .i64 v3),(.int .i64 v4),(.int .i64 v5)])])),(7,(.int .i64 v6)),(8,(.int .i64 s))],[])) g2l1_F):=by
  simp (maxSteps:=2000000) (maxDischargeDepth:=8) -implicitDefEqProofs [g2l1_cb,slices_IndexFunc_impl_Page_impl_Page__Super_inArea_c1_l1_b] <;> (try simp only [map_to_bind,some_elim,g2l1_F])
def slices_IndexFunc_impl_Page_impl_Page__Super_inArea_c1_l1 (v1:List (Int × Str)) (v2:Int) (v3:Int) (v4:Int) (v5:Int) (v6:Int) (s:Int):Option ((Unit) ⊕ (Int)):=loopO (fun s=>slices_IndexFunc_impl_Page_impl_Page__Super_inArea_c1_l1_b v1 v2 v3 v4 v5 v6 s) s
@[simp] theorem g2l1_eq (y0 y1 y2 y3 y4 y5 y6):X g2_S g2l1_c [(0,(.vs (rows y0))),(1,(.fn 60 [] [(.vp [(.int .i64 y1),(.int .i64 y2),(.int .i64 y3),(.int .i64 y4)])])),(7,(.int .i64 y5)),(8,(.int .i64 y6))] [] = (slices_IndexFunc_impl_Page_impl_Page__Super_inArea_c1_l1 y0 y1 y2 y3 y4 y5 y6).map g2l1_F:=by
  exact loop_X _ _ _ _ (by intro r; first | (simp; done) | (rcases r with r | r <;> simp; done) | (rcases r with r | r | r <;> simp; done) | (rcases r with r | r | r | r <;> simp)) (fun s=>g2l1_b_eq  y0 y1 y2 y3 y4 y5 s) y6
def slices_IndexFunc_impl_Page_impl_Page__Super_inArea_c1 (a_s:List (Int × Str)) (a_f:Int) (a_f':Int) (a_f'':Int) (a_f''':Int):Option (Int):=(slices_IndexFunc_impl_Page_impl_Page__Super_inArea_c1_l1 a_s a_f a_f' a_f'' a_f''' ((a_s.length:Int)) 0).bind fun r10=>Sum.elim (fun u11=>some ((-1))) (fun u12=>some u12) r10
@[simp] def g2_O:Int → TV × List Blk:=fun r=>((.int .i64 r),[])
def g2_E (a:(List (Int × Str)) × Int × Int × Int × Int):List TV:=[(.vs (rows a.1)),(.fn 60 [] [(.vp [(.int .i64 a.2.1),(.int .i64 a.2.2.1),(.int .i64 a.2.2.2.1),(.int .i64 a.2.2.2.2)])])]
theorem g2_run (a_s:List (Int × Str)) (a_f:Int) (a_f':Int) (a_f'':Int) (a_f''':Int) :callFn (X g2_S) g2_tf (g2_E (a_s,a_f,a_f',a_f'',a_f''')) [] = (slices_IndexFunc_impl_Page_impl_Page__Super_inArea_c1 a_s a_f a_f' a_f'' a_f''').map g2_O:=by
  rw [callFn_eq]
  simp (maxSteps:=2000000) (maxDischargeDepth:=8) -implicitDefEqProofs [g2_tf,slices_IndexFunc_impl_Page_impl_Page__Super_inArea_c1,g2_E] <;> (try simp only [map_to_bind,some_elim,g2_O])
def g2_r:Rule:=RlO g2_E (fun a=>slices_IndexFunc_impl_Page_impl_Page__Super_inArea_c1 a.1 a.2.1 a.2.2.1 a.2.2.2.1 a.2.2.2.2) g2_O
theorem g2_ok:RuleOk Tryz.prog 88 g2_r:=ok_rlo (S:=g2_S) (tf:=g2_tf) (SysOk.on ⟨g25_ok,trivial⟩ trivial) (trE_ok (ks:=[[0,1,7,8]]) Tryz.func88 (by kernel_rfl)) fun a=>g2_run a.1 a.2.1 a.2.2.1 a.2.2.2.1 a.2.2.2.2
@[simp] theorem g2_app (y0 y1 y2 y3 y4):g2_r [(.vs (rows y0)),(.fn 60 [] [(.vp [(.int .i64 y1),(.int .i64 y2),(.int .i64 y3),(.int .i64 y4)])])] = (slices_IndexFunc_impl_Page_impl_Page__Super_inArea_c1 y0 y1 y2 y3 y4).map g2_O :=
  RlO_app (enc:=g2_E) (by intro a b h; simp [g2_E,Prod.ext_iff] at h ⊢; simp [h]) (y0,y1,y2,y3,y4)
/-! slices.ContainsFunc[[]impl.Page,impl.Page] -/
def g1_tf:TFn:=⟨(sq [mk 4 (kb false)] [0,1] (.seq (.ops [mo 5 0,mo 6 1,ca 7 88 [.t 5,.t 6],bn 8 .geq (.t 7) (ki 0),mo 4 8]) (.keep (kp [(4,0)] [] 0) .ret))),[.t 4]⟩
abbrev g1_S:=Sys.on [(88,g2_r)] []
def slices_ContainsFunc_impl_Page_impl_Page__Super_inArea_c1 (a_s:List (Int × Str)) (a_f:Int) (a_f':Int) (a_f'':Int) (a_f''':Int):Option (Bool):=(slices_IndexFunc_impl_Page_impl_Page__Super_inArea_c1 a_s a_f a_f' a_f'' a_f''').bind fun r1=>some ((decide (r1 ≥ 0)))
@[simp] def g1_O:Bool → TV × List Blk:=fun r=>((.bool r),[])
def g1_E (a:(List (Int × Str)) × Int × Int × Int × Int):List TV:=[(.vs (rows a.1)),(.fn 60 [] [(.vp [(.int .i64 a.2.1),(.int .i64 a.2.2.1),(.int .i64 a.2.2.2.1),(.int .i64 a.2.2.2.2)])])]
theorem g1_run (a_s:List (Int × Str)) (a_f:Int) (a_f':Int) (a_f'':Int) (a_f''':Int) :callFn (X g1_S) g1_tf (g1_E (a_s,a_f,a_f',a_f'',a_f''')) [] = (slices_ContainsFunc_impl_Page_impl_Page__Super_inArea_c1 a_s a_f a_f' a_f'' a_f''').map g1_O:=by
  rw [callFn_eq]
  simp (maxSteps:=2000000) (maxDischargeDepth:=8) -implicitDefEqProofs [g1_tf,slices_ContainsFunc_impl_Page_impl_Page__Super_inArea_c1,g1_E] <;> (try simp only [map_to_bind,some_elim,g1_O])
def g1_r:Rule:=RlO g1_E (fun a=>slices_ContainsFunc_impl_Page_impl_Page__Super_inArea_c1 a.1 a.2.1 a.2.2.1 a.2.2.2.1 a.2.2.2.2) g1_O
theorem g1_ok:RuleOk Tryz.prog 59 g1_r:=ok_rlo (S:=g1_S) (tf:=g1_tf) (SysOk.on ⟨g2_ok,trivial⟩ trivial) (trE_ok (ks:=[]) Tryz.func59 (by kernel_rfl)) fun a=>g1_run a.1 a.2.1 a.2.2.1 a.2.2.2.1 a.2.2.2.2
@[simp] theorem g1_app (y0 y1 y2 y3 y4):g1_r [(.vs (rows y0)),(.fn 60 [] [(.vp [(.int .i64 y1),(.int .i64 y2),(.int .i64 y3),(.int .i64 y4)])])] = (slices_ContainsFunc_impl_Page_impl_Page__Super_inArea_c1 y0 y1 y2 y3 y4).map g1_O :=
  RlO_app (enc:=g1_E) (by intro a b h; simp [g1_E,Prod.ext_iff] at h ⊢; simp [h]) (y0,y1,y2,y3,y4)
/-! (impl.Super).inArea -/
def g49_tf:TFn:=⟨(sq [bx 2 0,mk 4 (kb false)] [1,2] (.seq (.ops [mo 5 1,oo 6 (.mkfn 60 [] [.t 2]),ca 7 59 [.t 5,.t 6],nt 8 7,mo 4 8]) (.keep (kp [(4,0)] [] 0) .ret))),[.t 4]⟩
abbrev g49_S:=Sys.on [(59,g1_r)] []
def impl_Super_inArea (a_s:Int × Int × Int × Int) (a_list:List (Int × Str)):Option (Bool):=(slices_ContainsFunc_impl_Page_impl_Page__Super_inArea_c1 a_list a_s.1 a_s.2.1 a_s.2.2.1 a_s.2.2.2).bind fun r1=>some ((!r1))
@[simp] def g49_O:Bool → TV × List Blk:=fun r=>((.bool r),[])
def g49_E (a:(Int × Int × Int × Int) × (List (Int × Str))):List TV:=[(.agg [(.int .i64 a.1.1),(.int .i64 a.1.2.1),(.int .i64 a.1.2.2.1),(.int .i64 a.1.2.2.2)]),(.vs (rows a.2))]
theorem g49_run (a_s:Int × Int × Int × Int) (a_list:List (Int × Str)) :callFn (X g49_S) g49_tf (g49_E (a_s,a_list)) [] = (impl_Super_inArea a_s a_list).map g49_O:=by
  rw [callFn_eq]
  simp (maxSteps:=2000000) (maxDischargeDepth:=8) -implicitDefEqProofs [g49_tf,impl_Super_inArea,g49_E] <;> (try simp only [map_to_bind,some_elim,g49_O])
def g49_r:Rule:=RlO g49_E (fun a=>impl_Super_inArea a.1 a.2) g49_O
theorem g49_ok:RuleOk Tryz.prog 30 g49_r:=ok_rlo (S:=g49_S) (tf:=g49_tf) (SysOk.on ⟨g1_ok,trivial⟩ trivial) (trE_ok (ks:=[]) Tryz.func30 (by kernel_rfl)) fun a=>g49_run a.1 a.2
@[simp] theorem g49_app (y0 y1 y2 y3 y4):g49_r [(.agg [(.int .i64 y0),(.int .i64 y1),(.int .i64 y2),(.int .i64 y3)]),(.vs (rows y4))] = (impl_Super_inArea ((y0,y1,y2,y3)) y4).map g49_O :=
  RlO_app (enc:=g49_E) (by intro a b h; simp [g49_E,Prod.ext_iff] at h ⊢; simp [h]) ((y0,y1,y2,y3),y4)
/-! impl.tableBlocks -/
def g59_tf:TFn:=⟨(sq [mk 2 (ki 0)] [0] (.seq (.ops [mo 3 0,bn 4 .mul (ki 2) (.t 3),bn 5 .add (.t 4) (ki 64),bn 6 .sub (.t 5) (ki 1),bn 7 .quo (.t 6) (ki 64),mo 2 7]) (.keep (kp [(2,0)] [] 0) .ret))),[.t 2]⟩
abbrev g59_S:=Sys.on [] []
def impl_tableBlocks (a_pages:Int):Option (Int):=some ((IntKind.i64.wrap (Int.tdiv ((IntKind.i64.wrap ((IntKind.i64.wrap ((IntKind.i64.wrap (2 * a_pages)) + 64)) - 1))) 64)))
@[simp] def g59_O:Int → TV × List Blk:=fun r=>((.int .i64 r),[])
def g59_E (a:Int):List TV:=[(.int .i64 a)]
theorem g59_run (a_pages:Int) :callFn (X g59_S) g59_tf (g59_E a_pages) [] = (impl_tableBlocks a_pages).map g59_O:=by
  rw [callFn_eq]
  simp (maxSteps:=2000000) (maxDischargeDepth:=8) -implicitDefEqProofs [g59_tf,impl_tableBlocks,g59_E] <;> (try simp only [map_to_bind,some_elim,g59_O])
def g59_r:Rule:=RlO g59_E (fun a=>impl_tableBlocks a) g59_O
theorem g59_ok:RuleOk Tryz.prog 89 g59_r:=ok_rlo (S:=g59_S) (tf:=g59_tf) (SysOk.on trivial trivial) (trE_ok (ks:=[]) Tryz.func89 (by kernel_rfl)) fun a=>g59_run a
@[simp] theorem g59_app (y0):g59_r [(.int .i64 y0)] = (impl_tableBlocks y0).map g59_O :=
  RlO_app (enc:=g59_E) (by intro a b h; simp [g59_E,Prod.ext_iff] at h ⊢; simp [h]) y0
/-! impl.RecordBlocks -/
def g50_tf:TFn:=⟨(sq [mk 2 (ki 0)] [0] (.seq (sq [mo 3 0,ca 4 28 [.t 3,ki 1,ki 60],nt 5 4] [0,5] (.cond (.t 5) (.seq (.ops [mk 2 (ki 0)]) (.keep (kp [(2,0)] [] 0) .ret)) .skip)) (.trim [0] (.seq (.ops [mo 6 0,ca 7 89 [.t 6],bn 8 .add (ki 1) (.t 7),mo 9 0,bn 10 .add (.t 8) (.t 9),mo 2 10]) (.keep (kp [(2,0)] [] 0) .ret))))),[.t 2]⟩
abbrev g50_S:=Sys.on [(28,g118_r),(89,g59_r)] []
def impl_RecordBlocks (a_pages:Int):Option (Int):=(impl_within a_pages 1 60).bind fun r1=>if ¬(r1 = true) then some 0 else (impl_tableBlocks a_pages).bind fun r2=>some ((IntKind.i64.wrap ((IntKind.i64.wrap (1 + r2)) + a_pages)))
@[simp] def g50_O:Int → TV × List Blk:=fun r=>((.int .i64 r),[])
def g50_E (a:Int):List TV:=[(.int .i64 a)]
theorem g50_run (a_pages:Int) :callFn (X g50_S) g50_tf (g50_E a_pages) [] = (impl_RecordBlocks a_pages).map g50_O:=by
  rw [callFn_eq]
  simp (maxSteps:=2000000) (maxDischargeDepth:=8) -implicitDefEqProofs [g50_tf,impl_RecordBlocks,g50_E] <;> (try simp only [map_to_bind,some_elim,g50_O])
def g50_r:Rule:=RlO g50_E (fun a=>impl_RecordBlocks a) g50_O
theorem g50_ok:RuleOk Tryz.prog 62 g50_r:=ok_rlo (S:=g50_S) (tf:=g50_tf) (SysOk.on ⟨g118_ok,g59_ok,trivial⟩ trivial) (trE_ok (ks:=[]) Tryz.func62 (by kernel_rfl)) fun a=>g50_run a
@[simp] theorem g50_app (y0):g50_r [(.int .i64 y0)] = (impl_RecordBlocks y0).map g50_O :=
  RlO_app (enc:=g50_E) (by intro a b h; simp [g50_E,Prod.ext_iff] at h ⊢; simp [h]) y0
/-! (impl.Super).fits -/
def g68_tf:TFn:=⟨(sq [bx 2 0,mk 4 (kb false)] [1,2] (.seq (.after (.draw [([],mo 5 1),([0],bn 6 .leq (.t 5) (ki 60)),([0,1],mo 7 6),([0,1,2],⟨(some 8),(some (7,true)),(.mv (.t 1))⟩),([0,1,2,3],⟨(some 9),(some (7,true)),(.call 62 [.t 8])⟩),([0,1,2],⟨(some 10),(some (7,true)),(.faddr 1 (.t 2))⟩),([0,1,2,5],⟨(some 11),(some (7,true)),(.load none (.t 10))⟩)] [⟨(some 12),(some (7,true)),(.bin .num .leq (.t 9) (.t 11))⟩,pk 13 (.t 7) (.t 12) (kb false),mo 4 13]) (kp [(4,0)] [] 0)) (.keep (kp [(4,0)] [] 0) .ret))),[.t 4]⟩
abbrev g68_S:=Sys.on [(62,g50_r)] []
def impl_Super_fits (a_s:Int × Int × Int × Int) (a_pages:Int):Option (Bool):=if a_pages ≤ 60 then (impl_RecordBlocks a_pages).bind fun r1=>some ((decide (r1 ≤ a_s.2.1))) else some false
@[simp] def g68_O:Bool → TV × List Blk:=fun r=>((.bool r),[])
def g68_E (a:(Int × Int × Int × Int) × Int):List TV:=[(.agg [(.int .i64 a.1.1),(.int .i64 a.1.2.1),(.int .i64 a.1.2.2.1),(.int .i64 a.1.2.2.2)]),(.int .i64 a.2)]
theorem g68_run (a_s:Int × Int × Int × Int) (a_pages:Int) :callFn (X g68_S) g68_tf (g68_E (a_s,a_pages)) [] = (impl_Super_fits a_s a_pages).map g68_O:=by
  rw [callFn_eq]
  simp (maxSteps:=2000000) (maxDischargeDepth:=8) -implicitDefEqProofs [g68_tf,impl_Super_fits,g68_E] <;> (try simp only [map_to_bind,some_elim,g68_O])
def g68_r:Rule:=RlO g68_E (fun a=>impl_Super_fits a.1 a.2) g68_O
theorem g68_ok:RuleOk Tryz.prog 31 g68_r:=ok_rlo (S:=g68_S) (tf:=g68_tf) (SysOk.on ⟨g50_ok,trivial⟩ trivial) (trE_ok (ks:=[[7]]) Tryz.func31 (by kernel_rfl)) fun a=>g68_run a.1 a.2
@[simp] theorem g68_app (y0 y1 y2 y3 y4):g68_r [(.agg [(.int .i64 y0),(.int .i64 y1),(.int .i64 y2),(.int .i64 y3)]),(.int .i64 y4)] = (impl_Super_fits ((y0,y1,y2,y3)) y4).map g68_O :=
  RlO_app (enc:=g68_E) (by intro a b h; simp [g68_E,Prod.ext_iff] at h ⊢; simp [h]) ((y0,y1,y2,y3),y4)
/-! impl.ValidPager -/
def g69p1_c:TC:=(.seq (.after (.ops [fa 40 10 1,ld 41 40,ca 42 29 [.t 41],mo 43 42,⟨(some 44),(some (43,true)),(.faddr 11 (.t 1))⟩,⟨(some 45),(some (43,true)),(.load none (.t 44))⟩,⟨(some 46),(some (43,true)),(.call 29 [.t 45])⟩,pk 47 (.t 43) (.t 46) (kb false),mo 48 47,⟨(some 49),(some (48,true)),(.faddr 4 (.t 1))⟩,⟨(some 50),(some (48,true)),(.load (some 4) (.t 49))⟩,⟨(some 51),(some (48,true)),(.faddr 10 (.t 1))⟩,⟨(some 52),(some (48,true)),(.load none (.t 51))⟩,⟨(some 53),(some (48,true)),(.call 30 [.t 50,.t 52])⟩,pk 54 (.t 48) (.t 53) (kb false),mo 55 54,⟨(some 56),(some (55,true)),(.faddr 4 (.t 1))⟩,⟨(some 57),(some (55,true)),(.load (some 4) (.t 56))⟩,⟨(some 58),(some (55,true)),(.faddr 11 (.t 1))⟩,⟨(some 59),(some (55,true)),(.load none (.t 58))⟩,⟨(some 60),(some (55,true)),(.call 30 [.t 57,.t 59])⟩,pk 61 (.t 55) (.t 60) (kb false),mo 62 61,⟨(some 63),(some (62,true)),(.faddr 4 (.t 1))⟩,⟨(some 64),(some (62,true)),(.load (some 4) (.t 63))⟩,⟨(some 65),(some (62,true)),(.faddr 11 (.t 1))⟩,⟨(some 66),(some (62,true)),(.load none (.t 65))⟩,⟨(some 67),(some (62,true)),(.len false (.t 66))⟩,⟨(some 68),(some (62,true)),(.call 31 [.t 64,.t 67])⟩,pk 69 (.t 62) (.t 68) (kb false),mo 2 69]) (kp [(2,0)] [] 0)) (.keep (kp [(2,0)] [] 0) .ret))
def g69_tf:TFn:=⟨(sq [bx 1 0,mk 2 (kb false)] [1] (.seq (sq [fa 3 0 1,ln 4 4 3,fa 5 4 1,ln 6 4 5,ca 7 27 [.t 4,.t 6],nt 8 7,mo 9 8,⟨(some 10),(some (9,false)),(.faddr 0 (.t 1))⟩,⟨(some 11),(some (9,false)),(.faddr 1 (.t 10))⟩,⟨(some 12),(some (9,false)),(.load none (.t 11))⟩,⟨(some 13),(some (9,false)),(.len false (.t 12))⟩,⟨(some 14),(some (9,false)),(.bin .num .gtr (.t 13) (ki 1))⟩,⟨(some 15),(some (9,false)),(.mv (.t 14))⟩,⟨(some 16),(some (15,true)),(.faddr 0 (.t 1))⟩,⟨(some 17),(some (15,true)),(.faddr 3 (.t 16))⟩,⟨(some 18),(some (15,true)),(.load none (.t 17))⟩,⟨(some 19),(some (15,true)),(.un .not (.t 18))⟩,⟨(some 20),(some (9,false)),(.pick (.t 15) (.t 19) (kb false))⟩,pk 21 (.t 9) (kb true) (.t 20),mo 22 21,⟨(some 23),(some (22,false)),(.faddr 8 (.t 1))⟩,⟨(some 24),(some (22,false)),(.load none (.t 23))⟩,⟨(some 25),(some (22,false)),(.faddr 4 (.t 1))⟩,⟨(some 26),(some (22,false)),(.faddr 2 (.t 25))⟩,⟨(some 27),(some (22,false)),(.load none (.t 26))⟩,⟨(some 28),(some (22,false)),(.call 28 [.t 24,.t 27,ki 1000000000000])⟩,⟨(some 29),(some (22,false)),(.un .not (.t 28))⟩,pk 30 (.t 22) (kb true) (.t 29),mo 31 30,⟨(some 32),(some (31,false)),(.faddr 9 (.t 1))⟩,⟨(some 33),(some (31,false)),(.load none (.t 32))⟩,⟨(some 34),(some (31,false)),(.faddr 4 (.t 1))⟩,⟨(some 35),(some (31,false)),(.faddr 1 (.t 34))⟩,⟨(some 36),(some (31,false)),(.load none (.t 35))⟩,⟨(some 37),(some (31,false)),(.call 28 [.t 33,ki 0,.t 36])⟩,⟨(some 38),(some (31,false)),(.un .not (.t 37))⟩,pk 39 (.t 31) (kb true) (.t 38)] [1,39] (.cond (.t 39) (.seq (.ops [mk 2 (kb false)]) (.keep (kp [(2,0)] [] 0) .ret)) (.keep (kp [(1,0)] [(0,0)] 0) .skip))) (.trim [1] g69p1_c))),[.t 2]⟩
abbrev g69_S:=Sys.on [(27,g85_r),(28,g118_r),(29,g67_r),(30,g49_r),(31,g68_r)] []
@[reducible,simp] def g69p1_F:Bool → Out:=(fun t=>(.ret,[(2,(.bool t))],[]))
def impl_ValidPager_p1 (v6:K1):Option (Bool):=(impl_ValidPages v6.2.2.2.2.1).bind fun r7=>if r7 = true then (impl_ValidPages v6.2.2.2.2.2).bind fun r8=>if r8 = true then (impl_Super_inArea v6.2.1 v6.2.2.2.2.1).bind fun r9=>if r9 = true then (impl_Super_inArea v6.2.1 v6.2.2.2.2.2).bind fun r10=>if r10 = true then (impl_Super_fits v6.2.1 ((v6.2.2.2.2.2.length:Int))).bind fun r11=>some r11 else some false else some false else some false else some false
@[simp] theorem g69p1_eq (y0 y1 y2 y3 y4 y5 y6 y7 y8 y9 y10 y11):X g69_S g69p1_c [(1,(.ptr 0 0 0))] [(.live 12 [[(.vs (rows y0)),(.vs (rows y1)),(.int .i64 y2),(.bool y3),(.int .i64 y4),(.int .i64 y5),(.int .i64 y6),(.int .i64 y7),(.int .i64 y8),(.int .i64 y9),(.vs (rows y10)),(.vs (rows y11))]])] = (impl_ValidPager_p1 (((y0,y1,y2,y3),(y4,y5,y6,y7),y8,y9,y10,y11))).map g69p1_F:=by
  simp (maxSteps:=2000000) (maxDischargeDepth:=8) -implicitDefEqProofs [g69p1_c,impl_ValidPager_p1] <;> (try simp only [map_to_bind,some_elim,g69p1_F])
def impl_ValidPager (a_p:K1):Option (Bool):=(impl_superFits a_p.1 a_p.2.1).bind fun r1=>if ¬(r1 = true) then some false else if (a_p.1.2.1.length:Int) > 1 then if ¬(a_p.1.2.2.2 = true) then some false else (impl_within a_p.2.2.1 a_p.2.1.2.2.1 1000000000000).bind fun r2=>if ¬(r2 = true) then some false else (impl_within a_p.2.2.2.1 0 a_p.2.1.2.1).bind fun r3=>if ¬(r3 = true) then some false else (impl_ValidPager_p1 a_p).bind fun r12=>some r12 else (impl_within a_p.2.2.1 a_p.2.1.2.2.1 1000000000000).bind fun r4=>if ¬(r4 = true) then some false else (impl_within a_p.2.2.2.1 0 a_p.2.1.2.1).bind fun r5=>if ¬(r5 = true) then some false else (impl_ValidPager_p1 a_p).bind fun r13=>some r13
@[simp] def g69_O:Bool → TV × List Blk:=fun r=>((.bool r),[])
def g69_E (a:K1):List TV:=[(.agg [(.vs (rows a.1.1)),(.vs (rows a.1.2.1)),(.int .i64 a.1.2.2.1),(.bool a.1.2.2.2),(.int .i64 a.2.1.1),(.int .i64 a.2.1.2.1),(.int .i64 a.2.1.2.2.1),(.int .i64 a.2.1.2.2.2),(.int .i64 a.2.2.1),(.int .i64 a.2.2.2.1),(.vs (rows a.2.2.2.2.1)),(.vs (rows a.2.2.2.2.2))])]
theorem g69_run (a_p:K1) :callFn (X g69_S) g69_tf (g69_E a_p) [] = (impl_ValidPager a_p).map g69_O:=by
  rw [callFn_eq]
  simp (maxSteps:=2000000) (maxDischargeDepth:=8) -implicitDefEqProofs [g69_tf,impl_ValidPager,g69_E] <;> (try simp only [map_to_bind,some_elim,g69_O])
def g69_r:Rule:=RlO g69_E (fun a=>impl_ValidPager a) g69_O
theorem g69_ok:RuleOk Tryz.prog 13 g69_r:=ok_rlo (S:=g69_S) (tf:=g69_tf) (SysOk.on ⟨g85_ok,g118_ok,g67_ok,g49_ok,g68_ok,trivial⟩ trivial) (trE_ok (ks:=[]) Tryz.func13 (by kernel_rfl)) fun a=>g69_run a
@[simp] theorem g69_app (y0 y1 y2 y3 y4 y5 y6 y7 y8 y9 y10 y11):g69_r [(.agg [(.vs (rows y0)),(.vs (rows y1)),(.int .i64 y2),(.bool y3),(.int .i64 y4),(.int .i64 y5),(.int .i64 y6),(.int .i64 y7),(.int .i64 y8),(.int .i64 y9),(.vs (rows y10)),(.vs (rows y11))])] = (impl_ValidPager (((y0,y1,y2,y3),(y4,y5,y6,y7),y8,y9,y10,y11))).map g69_O :=
  RlO_app (enc:=g69_E) (by intro a b h; simp [g69_E,Prod.ext_iff] at h ⊢; simp [h]) (((y0,y1,y2,y3),(y4,y5,y6,y7),y8,y9,y10,y11))
/-! (*impl.Pager).area -/
def g70_tf:TFn:=⟨(sq [mk 2 (ki 0)] [0] (.seq (.ops [mo 3 0,nk 4 3,fa 5 4 4,fa 6 1 5,ld 7 6,bn 8 .add (ki 2) (.t 7),mo 2 8]) (.keep (kp [(2,0)] [] 0) .ret))),[.t 2]⟩
abbrev g70_S:=Sys.on [] []
def impl_Pager_area (a_p:K1):Option (Int):=some ((IntKind.i64.wrap (2 + a_p.2.1.2.1)))
@[simp] def g70_O:Int → TV × List Blk:=fun r=>((.int .i64 r),[])
def g70_E (a:K1 × List TV):List TV:=[(.vp ((.vs (rows a.1.1.1))::(.vs (rows a.1.1.2.1))::(.int .i64 a.1.1.2.2.1)::(.bool a.1.1.2.2.2)::(.int .i64 a.1.2.1.1)::(.int .i64 a.1.2.1.2.1)::(.int .i64 a.1.2.1.2.2.1)::(.int .i64 a.1.2.1.2.2.2)::(.int .i64 a.1.2.2.1)::(.int .i64 a.1.2.2.2.1)::(.vs (rows a.1.2.2.2.2.1))::(.vs (rows a.1.2.2.2.2.2))::a.2))]
theorem g70_run (a_p:K1) (q0:List TV):callFn (X g70_S) g70_tf (g70_E (a_p,q0)) [] = (impl_Pager_area a_p).map g70_O:=by
  rw [callFn_eq]
  simp (maxSteps:=2000000) (maxDischargeDepth:=8) -implicitDefEqProofs [g70_tf,impl_Pager_area,g70_E] <;> (try simp only [map_to_bind,some_elim,g70_O])
def g70_r:Rule:=RlO g70_E (fun a=>impl_Pager_area a.1) g70_O
theorem g70_ok:RuleOk Tryz.prog 14 g70_r:=ok_rlo (S:=g70_S) (tf:=g70_tf) (SysOk.on trivial trivial) (trE_ok (ks:=[]) Tryz.func14 (by kernel_rfl)) fun a=>g70_run a.1 a.2
@[simp] theorem g70_app (y0 y1 y2 y3 y4 y5 y6 y7 y8 y9 y10 y11)(q0:List TV):g70_r [(.vp ((.vs (rows y0))::(.vs (rows y1))::(.int .i64 y2)::(.bool y3)::(.int .i64 y4)::(.int .i64 y5)::(.int .i64 y6)::(.int .i64 y7)::(.int .i64 y8)::(.int .i64 y9)::(.vs (rows y10))::(.vs (rows y11))::q0))] = (impl_Pager_area (((y0,y1,y2,y3),(y4,y5,y6,y7),y8,y9,y10,y11))).map g70_O :=
  RlO_app (enc:=g70_E) (by intro a b h; simp [g70_E,Prod.ext_iff] at h ⊢; simp [h]) (((y0,y1,y2,y3),(y4,y5,y6,y7),y8,y9,y10,y11),q0)
/-! cmp.isNaN[int64] -/
def g71_tf:TFn:=⟨(sq [mk 2 (kb false)] [0] (.seq (.ops [mo 3 0,mo 4 0,bn 5 .neq (.t 3) (.t 4),mo 2 5]) (.keep (kp [(2,0)] [] 0) .ret))),[.t 2]⟩
abbrev g71_S:=Sys.on [] []
def cmp_isNaN_int64 (a_x:Int):Option (Bool):=some ((!decide (a_x = a_x)))
@[simp] def g71_O:Bool → TV × List Blk:=fun r=>((.bool r),[])
def g71_E (a:Int):List TV:=[(.int .i64 a)]
theorem g71_run (a_x:Int) :callFn (X g71_S) g71_tf (g71_E a_x) [] = (cmp_isNaN_int64 a_x).map g71_O:=by
  rw [callFn_eq]
  simp (maxSteps:=2000000) (maxDischargeDepth:=8) -implicitDefEqProofs [g71_tf,cmp_isNaN_int64,g71_E] <;> (try simp only [map_to_bind,some_elim,g71_O])
def g71_r:Rule:=RlO g71_E (fun a=>cmp_isNaN_int64 a) g71_O
theorem g71_ok:RuleOk Tryz.prog 90 g71_r:=ok_rlo (S:=g71_S) (tf:=g71_tf) (SysOk.on trivial trivial) (trE_ok (ks:=[]) Tryz.func90 (by kernel_rfl)) fun a=>g71_run a
@[simp] theorem g71_app (y0):g71_r [(.int .i64 y0)] = (cmp_isNaN_int64 y0).map g71_O :=
  RlO_app (enc:=g71_E) (by intro a b h; simp [g71_E,Prod.ext_iff] at h ⊢; simp [h]) y0
/-! cmp.Compare[int64] -/
def g51_tf:TFn:=⟨(sq [mk 4 (ki 0)] [0,1] (sq [mo 7 0,ca 8 90 [.t 7],mo 5 8] [0,1,5] (sq [mo 9 1,ca 10 90 [.t 9],mo 6 10] [0,1,5,6] (.seq (sq [mo 11 5] [0,1,6,11] (.cond (.t 11) (.seq (sq [mo 12 6] [12] (.cond (.t 12) (.seq (.ops [mk 4 (ki 0)]) (.keep (kp [(4,0)] [] 0) .ret)) .skip)) (.trim [] (.seq (.ops [mk 4 (ki (-1))]) (.keep (kp [(4,0)] [] 0) .ret)))) .skip)) (.trim [0,1,6] (.seq (sq [mo 13 6] [0,1,13] (.cond (.t 13) (.seq (.ops [mk 4 (ki 1)]) (.keep (kp [(4,0)] [] 0) .ret)) .skip)) (.trim [0,1] (.seq (sq [mo 14 0,mo 15 1,bn 16 .lss (.t 14) (.t 15)] [0,1,16] (.cond (.t 16) (.seq (.ops [mk 4 (ki (-1))]) (.keep (kp [(4,0)] [] 0) .ret)) .skip)) (.trim [0,1] (.seq (sq [mo 17 0,mo 18 1,bn 19 .gtr (.t 17) (.t 18)] [19] (.cond (.t 19) (.seq (.ops [mk 4 (ki 1)]) (.keep (kp [(4,0)] [] 0) .ret)) .skip)) (.trim [] (.seq (.ops [mk 4 (ki 0)]) (.keep (kp [(4,0)] [] 0) .ret))))))))))))),[.t 4]⟩
abbrev g51_S:=Sys.on [(90,g71_r)] []
def cmp_Compare_int64 (a_x:Int) (a_y:Int):Option (Int):=(cmp_isNaN_int64 a_x).bind fun r1=>(cmp_isNaN_int64 a_y).bind fun r2=>if r1 = true then if r2 = true then some 0 else some ((-1)) else if r2 = true then some 1 else if a_x < a_y then some ((-1)) else if a_x > a_y then some 1 else some 0
@[simp] def g51_O:Int → TV × List Blk:=fun r=>((.int .i64 r),[])
def g51_E (a:Int × Int):List TV:=[(.int .i64 a.1),(.int .i64 a.2)]
theorem g51_run (a_x:Int) (a_y:Int) :callFn (X g51_S) g51_tf (g51_E (a_x,a_y)) [] = (cmp_Compare_int64 a_x a_y).map g51_O:=by
  rw [callFn_eq]
  simp (maxSteps:=2000000) (maxDischargeDepth:=8) -implicitDefEqProofs [g51_tf,cmp_Compare_int64,g51_E] <;> (try simp only [map_to_bind,some_elim,g51_O])
def g51_r:Rule:=RlO g51_E (fun a=>cmp_Compare_int64 a.1 a.2) g51_O
theorem g51_ok:RuleOk Tryz.prog 65 g51_r:=ok_rlo (S:=g51_S) (tf:=g51_tf) (SysOk.on ⟨g71_ok,trivial⟩ trivial) (trE_ok (ks:=[]) Tryz.func65 (by kernel_rfl)) fun a=>g51_run a.1 a.2
@[simp] theorem g51_app (y0 y1):g51_r [(.int .i64 y0),(.int .i64 y1)] = (cmp_Compare_int64 y0 y1).map g51_O :=
  RlO_app (enc:=g51_E) (by intro a b h; simp [g51_E,Prod.ext_iff] at h ⊢; simp [h]) (y0,y1)
/-! impl.pageAt.1 -/
def g87_tf:TFn:=⟨(sq [bx 2 0,mk 4 (ki 0)] [1,2] (.seq (.ops [fa 5 0 2,ld 6 5,mo 7 1,ca 8 65 [.t 6,.t 7],mo 4 8]) (.keep (kp [(4,0)] [] 0) .ret))),[.t 4]⟩
abbrev g87_S:=Sys.on [(65,g51_r)] []
def impl_pageAt_c1 (a_p:Int × Str) (a_block:Int):Option (Int):=(cmp_Compare_int64 a_p.1 a_block).bind fun r1=>some r1
@[simp] def g87_O:Int → TV × List Blk:=fun r=>((.int .i64 r),[])
def g87_E (a:(Int × Str) × Int):List TV:=[(.agg [(.int .i64 a.1.1),(.str a.1.2)]),(.int .i64 a.2)]
theorem g87_run (a_p:Int × Str) (a_block:Int) :callFn (X g87_S) g87_tf (g87_E (a_p,a_block)) [] = (impl_pageAt_c1 a_p a_block).map g87_O:=by
  rw [callFn_eq]
  simp (maxSteps:=2000000) (maxDischargeDepth:=8) -implicitDefEqProofs [g87_tf,impl_pageAt_c1,g87_E] <;> (try simp only [map_to_bind,some_elim,g87_O])
def g87_r:Rule:=RlO g87_E (fun a=>impl_pageAt_c1 a.1 a.2) g87_O
theorem g87_ok:RuleOk Tryz.prog 64 g87_r:=ok_rlo (S:=g87_S) (tf:=g87_tf) (SysOk.on ⟨g51_ok,trivial⟩ trivial) (trE_ok (ks:=[]) Tryz.func64 (by kernel_rfl)) fun a=>g87_run a.1 a.2
@[simp] theorem g87_app (y0 y1 y2):g87_r [(.agg [(.int .i64 y0),(.str y1)]),(.int .i64 y2)] = (impl_pageAt_c1 ((y0,y1)) y2).map g87_O :=
  RlO_app (enc:=g87_E) (by intro a b h; simp [g87_E,Prod.ext_iff] at h ⊢; simp [h]) ((y0,y1),y2)
/-! slices.BinarySearchFunc[[]impl.Page,impl.Page,int64] -/
def g0l1_cb:TC:=(.seq (sq [mo 15 9,mo 16 10,bn 17 .lss (.t 15) (.t 16)] [0,1,2,8,9,10,17] (.cond (.t 17) .skip (.keep (kp [(0,0),(1,0),(2,0),(8,0),(9,0)] [] 0) (.exit 0)))) (.trim [0,1,2,8,9,10] (.block 1 (sq [mo 18 9,mo 19 10,bn 20 .add (.t 18) (.t 19),oo 21 (.conv (.toInt .u64) (.t 20)),oo 22 (.bin .num .shr (.t 21) (.c (.int .u64 1))),oo 23 (.conv (.toInt .i64) (.t 22)),mo 11 23] [0,1,2,8,9,10,11] (sq [mo 24 2,mo 25 0,mo 26 11,ia 27 2 25 26,ln 28 2 27,mo 29 1,oo 30 (.callv (.t 24) [.t 28,.t 29]),bn 31 .lss (.t 30) (ki 0)] [0,1,2,8,9,10,11,31] (.cond (.t 31) (.after (.ops [mo 32 11,bn 33 .add (.t 32) (ki 1),mo 9 33]) (kp [(0,0),(1,0),(2,0),(8,0),(9,0),(10,0)] [] 0)) (.after (.ops [mo 34 11,mo 10 34]) (kp [(0,0),(1,0),(2,0),(8,0),(9,0),(10,0)] [] 0))))))))
def g0l1_c:TC:=.loop [0,1,2,8,9,10] g0l1_cb
def g0_tf:TFn:=⟨(sq [mk 6 (ki 0),mk 7 (kb false)] [0,1,2] (sq [mo 12 0,le 13 12,mo 8 13] [0,1,2,8] (sq [mo 14 8,mk 9 (ki 0),mo 10 14] [0,1,2,8,9,10] (.seq (.block 0 (.keep (kp [(0,0),(1,0),(2,0),(8,0),(9,0),(10,0)] [] 0) g0l1_c)) (.trim [0,1,2,8,9] (.seq (.after (.ops [mo 35 9,mo 36 9,mo 37 8,bn 38 .lss (.t 36) (.t 37),mo 39 38,⟨(some 40),(some (39,true)),(.mv (.t 2))⟩,⟨(some 41),(some (39,true)),(.mv (.t 0))⟩,⟨(some 42),(some (39,true)),(.mv (.t 9))⟩,⟨(some 43),(some (39,true)),(.iaddr 2 (.t 41) (.t 42))⟩,⟨(some 44),(some (39,true)),(.load (some 2) (.t 43))⟩,⟨(some 45),(some (39,true)),(.mv (.t 1))⟩,⟨(some 46),(some (39,true)),(.callv (.t 40) [.t 44,.t 45])⟩,⟨(some 47),(some (39,true)),(.bin .num .eql (.t 46) (ki 0))⟩,pk 48 (.t 39) (.t 47) (kb false),mo 6 35,mo 7 48]) (kp [(6,0),(7,0)] [] 0)) (.keep (kp [(6,0),(7,0)] [] 0) .ret))))))),[.t 6,.t 7]⟩
abbrev g0_S:=Sys.on [(64,g87_r)] []
@[reducible,simp] def g0l1_F:((List (Int × Str)) × Int × Int × Int) → Out:=(fun t=>(.ext 0,[(0,(.vs (rows t.1))),(1,(.int .i64 t.2.1)),(2,(.fn 64 [] [])),(8,(.int .i64 t.2.2.1)),(9,(.int .i64 t.2.2.2))],[]))
def slices_BinarySearchFunc_impl_Page_impl_Page_int64__pageAt_c1_l1_b (v1:List (Int × Str)) (v2:Int) (v3:Int) (v4:Int) (v5:Int):Option ((Int × Int) ⊕ ((List (Int × Str)) × Int × Int × Int)):=if v4 < v5 then if 0 ≤ (IntKind.i64.wrap ((shrV .u64 ((IntKind.u64.wrap ((IntKind.i64.wrap (v4 + v5))))) 1))) then (v1[((IntKind.i64.wrap ((shrV .u64 ((IntKind.u64.wrap ((IntKind.i64.wrap (v4 + v5))))) 1)))).toNat]?).bind fun x6=>(impl_pageAt_c1 x6 v2).bind fun r7=>if r7 < 0 then some (.inl ((IntKind.i64.wrap ((IntKind.i64.wrap ((shrV .u64 ((IntKind.u64.wrap ((IntKind.i64.wrap (v4 + v5))))) 1))) + 1)),v5)) else some (.inl (v4,(IntKind.i64.wrap ((shrV .u64 ((IntKind.u64.wrap ((IntKind.i64.wrap (v4 + v5))))) 1))))) else none else some (.inr (v1,v2,v3,v4))
theorem g0l1_b_eq  (v1:List (Int × Str)) (v2:Int) (v3:Int) (v4:Int) (v5:Int):X g0_S g0l1_cb (keepEnv [0,1,2,8,9,10] [(0,(.vs (rows v1))),(1,(.int .i64 v2)),(2,(.fn 64 [] [])),(8,(.int .i64 v3)),(9,(.int .i64 v4)),(10,(.int .i64 v5))]) [] = (slices_BinarySearchFunc_impl_Page_impl_Page_int64__pageAt_c1_l1_b v1 v2 v3 v4 v5).map (Sum.elim (fun s=>(TX.nrm,[(0,(.vs (rows v1))),(1,(.int .i64 v2)),(2,(.fn 64 [] [])),(8,(.int .i64 v3)),(9,(.int .i64 s.1)),(10,(.int .i64 s.2))],[])) g0l1_F):=by
  simp (maxSteps:=2000000) (maxDischargeDepth:=8) -implicitDefEqProofs [g0l1_cb,slices_BinarySearchFunc_impl_Page_impl_Page_int64__pageAt_c1_l1_b] <;> (try simp only [map_to_bind,some_elim,g0l1_F])
def slices_BinarySearchFunc_impl_Page_impl_Page_int64__pageAt_c1_l1 (v1:List (Int × Str)) (v2:Int) (v3:Int) (s:Int × Int):Option ((List (Int × Str)) × Int × Int × Int):=loopO (fun s=>slices_BinarySearchFunc_impl_Page_impl_Page_int64__pageAt_c1_l1_b v1 v2 v3 s.1 s.2) s
@[simp] theorem g0l1_eq (y0 y1 y2 y3 y4):X g0_S g0l1_c [(0,(.vs (rows y0))),(1,(.int .i64 y1)),(2,(.fn 64 [] [])),(8,(.int .i64 y2)),(9,(.int .i64 y3)),(10,(.int .i64 y4))] [] = (slices_BinarySearchFunc_impl_Page_impl_Page_int64__pageAt_c1_l1 y0 y1 y2 (y3,y4)).map g0l1_F:=by
  exact loop_X _ _ _ _ (by intro r; first | (simp; done) | (rcases r with r | r <;> simp; done) | (rcases r with r | r | r <;> simp; done) | (rcases r with r | r | r | r <;> simp)) (fun s=>g0l1_b_eq  y0 y1 y2 s.1 s.2) (y3,y4)
def slices_BinarySearchFunc_impl_Page_impl_Page_int64__pageAt_c1 (a_x:List (Int × Str)) (a_target:Int):Option (Int × Bool):=(slices_BinarySearchFunc_impl_Page_impl_Page_int64__pageAt_c1_l1 a_x a_target ((a_x.length:Int)) ((0,(a_x.length:Int)))).bind fun r8=>if r8.2.2.2 < r8.2.2.1 then if 0 ≤ r8.2.2.2 then (r8.1[(r8.2.2.2).toNat]?).bind fun x9=>(impl_pageAt_c1 x9 r8.2.1).bind fun r10=>some (r8.2.2.2,(decide (r10 = 0))) else none else some (r8.2.2.2,false)
@[simp] def g0_O:(Int × Bool) → TV × List Blk:=fun r=>((.tup [(.int .i64 r.1),(.bool r.2)]),[])
def g0_E (a:(List (Int × Str)) × Int):List TV:=[(.vs (rows a.1)),(.int .i64 a.2),(.fn 64 [] [])]
theorem g0_run (a_x:List (Int × Str)) (a_target:Int) :callFn (X g0_S) g0_tf (g0_E (a_x,a_target)) [] = (slices_BinarySearchFunc_impl_Page_impl_Page_int64__pageAt_c1 a_x a_target).map g0_O:=by
  rw [callFn_eq]
  simp (maxSteps:=2000000) (maxDischargeDepth:=8) -implicitDefEqProofs [g0_tf,slices_BinarySearchFunc_impl_Page_impl_Page_int64__pageAt_c1,g0_E] <;> (try simp only [map_to_bind,some_elim,g0_O])
def g0_r:Rule:=RlO g0_E (fun a=>slices_BinarySearchFunc_impl_Page_impl_Page_int64__pageAt_c1 a.1 a.2) g0_O
theorem g0_ok:RuleOk Tryz.prog 63 g0_r:=ok_rlo (S:=g0_S) (tf:=g0_tf) (SysOk.on ⟨g87_ok,trivial⟩ trivial) (trE_ok (ks:=[[0,1,2,8,9,10]]) Tryz.func63 (by kernel_rfl)) fun a=>g0_run a.1 a.2
@[simp] theorem g0_app (y0 y1):g0_r [(.vs (rows y0)),(.int .i64 y1),(.fn 64 [] [])] = (slices_BinarySearchFunc_impl_Page_impl_Page_int64__pageAt_c1 y0 y1).map g0_O :=
  RlO_app (enc:=g0_E) (by intro a b h; simp [g0_E,Prod.ext_iff] at h ⊢; simp [h]) (y0,y1)
/-! impl.pageAt -/
def g119_tf:TFn:=⟨(sq [mk 4 (ki 0),mk 5 (kb false)] [0,1] (.seq (.ops [mo 6 0,mo 7 1,oo 8 (.call 63 [.t 6,.t 7,(.c (.fn 64 [] []))]),oo 9 (.ext (.t 8) 0),oo 10 (.ext (.t 8) 1),mo 4 9,mo 5 10]) (.keep (kp [(4,0),(5,0)] [] 0) .ret))),[.t 4,.t 5]⟩
abbrev g119_S:=Sys.on [(63,g0_r)] []
def impl_pageAt (a_list:List (Int × Str)) (a_block:Int):Option (Int × Bool):=(slices_BinarySearchFunc_impl_Page_impl_Page_int64__pageAt_c1 a_list a_block).bind fun r1=>some (r1.1,r1.2)
@[simp] def g119_O:(Int × Bool) → TV × List Blk:=fun r=>((.tup [(.int .i64 r.1),(.bool r.2)]),[])
def g119_E (a:(List (Int × Str)) × Int):List TV:=[(.vs (rows a.1)),(.int .i64 a.2)]
theorem g119_run (a_list:List (Int × Str)) (a_block:Int) :callFn (X g119_S) g119_tf (g119_E (a_list,a_block)) [] = (impl_pageAt a_list a_block).map g119_O:=by
  rw [callFn_eq]
  simp (maxSteps:=2000000) (maxDischargeDepth:=8) -implicitDefEqProofs [g119_tf,impl_pageAt,g119_E] <;> (try simp only [map_to_bind,some_elim,g119_O])
def g119_r:Rule:=RlO g119_E (fun a=>impl_pageAt a.1 a.2) g119_O
theorem g119_ok:RuleOk Tryz.prog 32 g119_r:=ok_rlo (S:=g119_S) (tf:=g119_tf) (SysOk.on ⟨g0_ok,trivial⟩ trivial) (trE_ok (ks:=[]) Tryz.func32 (by kernel_rfl)) fun a=>g119_run a.1 a.2
@[simp] theorem g119_app (y0 y1):g119_r [(.vs (rows y0)),(.int .i64 y1)] = (impl_pageAt y0 y1).map g119_O :=
  RlO_app (enc:=g119_E) (by intro a b h; simp [g119_E,Prod.ext_iff] at h ⊢; simp [h]) (y0,y1)
/-! (impl.Disk).read -/
def impl_Disk_read (d:K0) (k:Int):Option Str:=readD d k
noncomputable def g88_r:Rule:=read_r
theorem g88_ok:RuleOk Tryz.prog 33 g88_r:=read_ok
@[simp] theorem g88_app (y0 y1 y2 y3 y4):g88_r [.agg [.vs (rows y0),.vs (rows y1),.int .i64 y2,.bool y3],.int .i64 y4] = (impl_Disk_read (y0,y1,y2,y3) y4).map (fun r=>(.str r,[])):=read_app y0 y1 y2 y3 y4
/-! (*impl.Pager).committed -/
def g26_tf:TFn:=⟨(sq [mk 4 (.c (.str []))] [0,1] (.seq (sq [mo 8 0,nk 9 8,fa 10 10 9,ld 11 10,mo 12 1,ca 13 32 [.t 11,.t 12],mo 7 13,oo 14 (.ext (.t 7) 0),oo 15 (.ext (.t 7) 1),mo 5 14,mo 6 15] [0,1,5,6] (sq [mo 16 6] [0,1,5,16] (.cond (.t 16) (.seq (.ops [mo 17 0,nk 18 17,fa 19 10 18,ld 20 19,mo 21 5,ia 22 2 20 21,fa 23 1 22,ld 24 23,mo 4 24]) (.keep (kp [(4,0)] [] 0) .ret)) .skip))) (.trim [0,1] (.seq (.ops [mo 25 0,nk 26 25,fa 27 0 26,ln 28 4 27,mo 29 1,ca 30 33 [.t 28,.t 29],mo 4 30]) (.keep (kp [(4,0)] [] 0) .ret))))),[.t 4]⟩
abbrev g26_S:=Sys.on [(32,g119_r),(33,g88_r)] []
def impl_Pager_committed (a_p:K1) (a_k:Int):Option (Str):=(impl_pageAt a_p.2.2.2.2.1 a_k).bind fun r1=>if r1.2 = true then if 0 ≤ r1.1 then (a_p.2.2.2.2.1[(r1.1).toNat]?).bind fun x2=>some x2.2 else none else (impl_Disk_read a_p.1 a_k).bind fun r3=>some r3
@[simp] def g26_O:Str → TV × List Blk:=fun r=>((.str r),[])
def g26_E (a:K1 × Int × List TV):List TV:=[(.vp ((.vs (rows a.1.1.1))::(.vs (rows a.1.1.2.1))::(.int .i64 a.1.1.2.2.1)::(.bool a.1.1.2.2.2)::(.int .i64 a.1.2.1.1)::(.int .i64 a.1.2.1.2.1)::(.int .i64 a.1.2.1.2.2.1)::(.int .i64 a.1.2.1.2.2.2)::(.int .i64 a.1.2.2.1)::(.int .i64 a.1.2.2.2.1)::(.vs (rows a.1.2.2.2.2.1))::(.vs (rows a.1.2.2.2.2.2))::a.2.2)),(.int .i64 a.2.1)]
theorem g26_run (a_p:K1) (a_k:Int) (q0:List TV):callFn (X g26_S) g26_tf (g26_E (a_p,a_k,q0)) [] = (impl_Pager_committed a_p a_k).map g26_O:=by
  rw [callFn_eq]
  simp (maxSteps:=2000000) (maxDischargeDepth:=8) -implicitDefEqProofs [g26_tf,impl_Pager_committed,g26_E] <;> (try simp only [map_to_bind,some_elim,g26_O])
def g26_r:Rule:=RlO g26_E (fun a=>impl_Pager_committed a.1 a.2.1) g26_O
theorem g26_ok:RuleOk Tryz.prog 15 g26_r:=ok_rlo (S:=g26_S) (tf:=g26_tf) (SysOk.on ⟨g119_ok,g88_ok,trivial⟩ trivial) (trE_ok (ks:=[]) Tryz.func15 (by kernel_rfl)) fun a=>g26_run a.1 a.2.1 a.2.2
@[simp] theorem g26_app (y0 y1 y2 y3 y4 y5 y6 y7 y8 y9 y10 y11 y12)(q0:List TV):g26_r [(.vp ((.vs (rows y0))::(.vs (rows y1))::(.int .i64 y2)::(.bool y3)::(.int .i64 y4)::(.int .i64 y5)::(.int .i64 y6)::(.int .i64 y7)::(.int .i64 y8)::(.int .i64 y9)::(.vs (rows y10))::(.vs (rows y11))::q0)),(.int .i64 y12)] = (impl_Pager_committed (((y0,y1,y2,y3),(y4,y5,y6,y7),y8,y9,y10,y11)) y12).map g26_O :=
  RlO_app (enc:=g26_E) (by intro a b h; simp [g26_E,Prod.ext_iff] at h ⊢; simp [h]) (((y0,y1,y2,y3),(y4,y5,y6,y7),y8,y9,y10,y11),y12,q0)
end
end Go.Proofs.TM
