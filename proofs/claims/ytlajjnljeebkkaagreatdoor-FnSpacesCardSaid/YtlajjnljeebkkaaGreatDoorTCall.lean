import Derived.Test.YtlajjnljeebkkaaGreatDoorTOpF
namespace Go.Proofs.TM
open Go
def RuleOk (P:Program) (f:Nat) (F:Rule):Prop :=
 Enters P f∧∀ (ts:List TV) (r:TV) (N:List Blk),F ts=some (r,N)→∀ (w:World) (I:Nat→Nat→Prop) (vs:Array Value),Lt w I→VRL w I Mu.none ts vs.toList →
  Calls P f vs w fun e w'=>∃ (v:Value) (I':Nat→Nat→Prop) (μ':Mu),e=.returned v∧Ext w w'∧(∀ b k,I b k→I' b k)∧(∀ b k,I' b k→I b k∨w.heap.size≤b)∧HR w' I' μ' (look N)∧VR w' I' μ' r v ∧
   (∀ b k,Foot μ' (look N) b k→w.heap.size≤b)∧(∀ id loc,μ' id=some loc→id < N.length)
theorem look_shift {N:List Blk} {s id sz:Nat} {l:List (List TV)} (h:(N.map (shiftB s)).getD id .dead=.live sz l):∃ l',look N id=.live sz l'∧l=l'.map fun xs=>xs.map (shift s 1):=by
 unfold look
 rw [List.getD_eq_getElem?_getD] at h ⊢
 rw [List.getElem?_map] at h
 cases hb:N[id]? with
 | none=>rw [hb] at h;cases h
 | some b =>
  rw [hb] at h
  cases b with
  | dead=>cases h
  | live sz' l' =>
   simp only [Option.map_some,Option.getD_some,shiftB,Blk.live.injEq] at h
   exact ⟨l',by simp [h.1],h.2.symm⟩
section
variable {P:Program} {S:Sys} {o:Oper} {a:Act} {w:World} {I:Nat→Nat→Prop} {μ:Mu} {e:Env} {H:Heap} {base:Nat} {v:TV} {N:List Blk}
theorem join_ok {w':World} {I1:Nat→Nat→Prop} {μ1:Mu} (hr:HR w I μ (look H)) (hx:Ext w w') (hfree:∀ id,base≤id→id < base+N.length→μ id=none) (hII:∀ b k,I b k→I1 b k) (hnew:∀ b k,I1 b k→I b k∨w.heap.size≤b)
  (hr1:HR w' I1 μ1 (look N)) (hfoot:∀ b k,Foot μ1 (look N) b k→w.heap.size≤b) (hdom:∀ id loc,μ1 id=some loc→id < N.length) :
  ∃ μ':Mu,μ.le μ'∧(∀ id,μ' id=μ id∨(base≤id∧id < base+N.length))∧(∀ id loc,μ1 id=some loc→μ' (id+base)=some loc)∧HR w' I1 μ' (plc (look H) base (N.map (shiftB base))) ∧
   (∀ b k,Foot μ' (plc (look H) base (N.map (shiftB base))) b k→Foot μ (look H) b k∨w.heap.size≤b):=by
 let μ':Mu:=fun id=>if base≤id∧id < base+N.length then μ1 (id - base) else μ id
 have hin:∀ id,base≤id→id < base+N.length→μ' id=μ1 (id - base):=fun id h1 h2=>by show (if _ then _ else _)=_;rw [if_pos ⟨h1,h2⟩]
 have hout:∀ id,¬ (base≤id∧id < base+N.length)→μ' id=μ id:=fun id h=>by show (if _ then _ else _)=_;rw [if_neg h]
 have hshift:∀ id loc,μ1 id=some loc→μ' (id+base)=some loc:=fun id loc h=>by
  have:=hdom id loc h
  rw [hin _ (by omega) (by omega),Nat.add_sub_cancel];exact h
 have hle:μ.le μ':=fun id loc h=>by
  by_cases hid:base≤id∧id < base+N.length
  ·rw [hfree id hid.1 hid.2] at h;cases h
  ·rw [hout id hid];exact h
 have pin:∀ id,base≤id→id < base+N.length→plc (look H) base (N.map (shiftB base)) id=(N.map (shiftB base)).getD (id - base) .dead:=fun id h1 h2=>by unfold plc;rw [if_pos ⟨h1,by simpa using h2⟩]
 have pout:∀ id,¬ (base≤id∧id < base+N.length)→plc (look H) base (N.map (shiftB base)) id=look H id:=fun id h=>by unfold plc;rw [if_neg (by simpa using h)]
 -- a live block is a new one or an old one
 have live:∀ id sz l loc,plc (look H) base (N.map (shiftB base)) id=.live sz l→μ' id=some loc →
   (∃ l',base≤id∧id < base+N.length∧look N (id - base)=.live sz l'∧μ1 (id - base)=some loc)∨(¬ (base≤id∧id < base+N.length)∧look H id=.live sz l∧μ id=some loc):=fun id sz l loc h1 h2=>by
  by_cases hid:base≤id∧id < base+N.length
  ·rw [pin id hid.1 hid.2] at h1
   rw [hin id hid.1 hid.2] at h2
   obtain ⟨l',k1,_⟩:=look_shift h1
   exact .inl ⟨l',hid.1,hid.2,k1,h2⟩
  ·rw [pout id hid] at h1
   rw [hout id hid] at h2
   exact .inr ⟨hid,h1,h2⟩
 have oldlt:∀ id sz l loc,look H id=.live sz l→μ id=some loc→loc.blk < w.heap.size:=fun id sz l loc h1 h2=>by
  obtain ⟨loc',c,ty,fr,k1,k2,_⟩:=hr.live id sz l h1
  rw [h2] at k1
  cases k1
  exact (Array.getElem?_eq_some_iff.1 k2).1
 refine ⟨μ',hle,fun id=>?_,hshift,⟨fun id sz l hl=>?_,fun id id' sz l sz' l' loc loc' h1 h2 hne m1 m2 hblk k q1 q2 q3 q4=>?_,fun b k hf hi=>?_,hr1.lt⟩,fun b k hf=>?_⟩
 ·by_cases hid:base≤id∧id < base+N.length
  ·exact .inr hid
  ·exact .inl (hout id hid)
 ·by_cases hid:base≤id∧id < base+N.length
  ·rw [pin id hid.1 hid.2] at hl
   obtain ⟨l',k1,rfl⟩:=look_shift hl
   obtain ⟨loc,c,ty,fr,a1,a2,a3⟩:=hr1.live _ sz l' k1
   refine ⟨loc,c,ty,fr,by rw [hin id hid.1 hid.2];exact a1,a2,a3.hsz,a3.hty,a3.size,by simpa using a3.fits,a3.frozen,fun xs hx=>?_,fun i xs k t hi hk=>?_⟩
   ·simp only [List.mem_map] at hx
    obtain ⟨ys,hy,rfl⟩:=hx
    simpa using a3.each ys hy
   ·obtain ⟨ys,hy,rfl⟩:=map_get hi
    obtain ⟨u,hu,rfl⟩:=map_get hk
    obtain ⟨vv,b1,b2⟩:=a3.cells i ys k u hy hu
    exact ⟨vv,b1,shift_ok hshift 1 b2⟩
  ·rw [pout id hid] at hl
   obtain ⟨loc,c,ty,fr,a1,a2,a3⟩:=hr.live id sz l hl
   exact ⟨loc,c,ty,fr,hle _ _ a1,hx.heap a2,a3.mono (hx.same I) hII hle⟩
 ·rcases live id sz l loc h1 m1 with ⟨l1,c1,c2,c3,c4⟩ | ⟨c1,c2,c3⟩
  ·rcases live id' sz' l' loc' h2 m2 with ⟨l2,d1,d2,d3,d4⟩ | ⟨d1,d2,d3⟩
   ·exact hr1.disj _ _ sz l1 sz' l2 loc loc' c3 d3 (by omega) c4 d4 hblk k q1 q2 q3 q4
   ·have e1:=hfoot loc.blk k ⟨_,sz,l1,loc,c3,c4,rfl,q1,q2⟩
    have e2:=oldlt id' sz' l' loc' d2 d3
    omega
  ·rcases live id' sz' l' loc' h2 m2 with ⟨l2,d1,d2,d3,d4⟩ | ⟨d1,d2,d3⟩
   ·have e1:=hfoot loc'.blk k ⟨_,sz',l2,loc',d3,d4,rfl,q3,q4⟩
    have e2:=oldlt id sz l loc c2 c3
    omega
   ·exact hr.disj id id' sz l sz' l' loc loc' c2 d2 hne c3 d3 hblk k q1 q2 q3 q4
 ·obtain ⟨id,sz,l,loc,f1,f2,f3,f4,f5⟩:=hf
  rcases live id sz l loc f1 f2 with ⟨l1,c1,c2,c3,c4⟩ | ⟨c1,c2,c3⟩
  ·exact hr1.noI b k ⟨_,sz,l1,loc,c3,c4,f3,f4,f5⟩ hi
  ·have hf':Foot μ (look H) b k:=⟨id,sz,l,loc,c2,c3,f3,f4,f5⟩
   rcases hnew b k hi with h1 | h1
   ·exact hr.noI b k hf' h1
   ·have:=oldlt id sz l loc c2 c3
    omega
 ·obtain ⟨id,sz,l,loc,f1,f2,f3,f4,f5⟩:=hf
  rcases live id sz l loc f1 f2 with ⟨l1,c1,c2,c3,c4⟩ | ⟨c1,c2,c3⟩
  ·exact .inr (hfoot b k ⟨_,sz,l1,loc,c3,c4,f3,f4,f5⟩)
  ·exact .inl ⟨id,sz,l,loc,c2,c3,f3,f4,f5⟩
theorem foot_lt (hr:HR w I μ (look H)) {b k:Nat} (hf:Foot μ (look H) b k):b < w.heap.size:=by
 obtain ⟨id,sz,l,loc,f1,f2,f3,f4,f5⟩:=hf
 obtain ⟨loc',c,ty,fr,k1,k2,_⟩:=hr.live id sz l f1
 rw [f2] at k1
 cases k1
 rw [← f3]
 exact (Array.getElem?_eq_some_iff.1 k2).1
theorem callRule_ok {f:Nat} (hS:∀ f F,S.rule f=some F→RuleOk P f F) (hr:HR w I μ (look H)) (hfree:∀ id,base≤id→id < base+N.length→μ id=none) {ts:List TV} {vs:Array Value} (hvs:VRL w I μ ts vs.toList) (h:callRule S H base f ts=some (v,N)) :
  Enters P f∧Calls P f vs w fun e w'=>∃ (vv:Value) (I':Nat→Nat→Prop) (μ':Mu),e=.returned vv∧Ext w w'∧(∀ b k,I b k→I' b k)∧(∀ b k,I' b k→I b k∨w.heap.size≤b)∧μ.le μ'∧(∀ id,μ' id=μ id∨(base≤id∧id < base+N.length)) ∧
   HR w' I' μ' (plc (look H) base N)∧VR w' I' μ' v vv∧(∀ b k,Foot μ' (plc (look H) base N) b k→Foot μ (look H) b k∨w.heap.size≤b):=by
 unfold callRule at h
 cases hF:S.rule f with
 | none=>rw [hF] at h;cases h
 | some F =>
  rw [hF] at h
  simp only at h
  obtain ⟨hent,hcall⟩:=hS f F hF
  refine ⟨hent,?_⟩
  cases hres:F (ts.map (reify H 4)) with
  | none=>rw [hres] at h;cases h
  | some p =>
   obtain ⟨r,N0⟩:=p
   rw [hres] at h
   simp only at h
   split at h
   ·rename_i hcond
    simp only [Option.some.injEq,Prod.mk.injEq] at h
    obtain ⟨rfl,rfl⟩:=h
    have hfree':∀ id,base≤id→id < base+N0.length→μ id=none:=fun id h1 h2=>hfree id h1 (by simpa using h2)
    by_cases hid:ts.all (noId 4)=true
    ·-- the arguments are trees
     have hargs:VRL w I Mu.none (ts.map (reify H 4)) vs.toList:=by
      refine ⟨by simpa using hvs.1,fun k t v h1 h2=>?_⟩
      obtain ⟨u,hu,rfl⟩:=map_get h1
      simp only [List.all_eq_true] at hid
      exact reify_noId_ok 4 (hid u (List.mem_of_getElem? hu)) (hvs.2 k u v hu h2)
     refine (hcall _ _ _ hres w I vs hr.lt hargs).mono fun e w' ⟨vv,I1,μ1,he,hx,hII,hnew,hr1,hvr,hfoot,hdom⟩=>?_
     obtain ⟨μ',g1,g2,g3,g4,g5⟩:=join_ok (base:=base) hr hx hfree' hII hnew hr1 hfoot hdom
     exact ⟨vv,I1,μ',he,hx,hII,hnew,g1,by simpa using g2,g4,shift_ok g3 2 hvr,g5⟩
    ·-- what comes back leads to new memory alone
     have hclean:clean 2 r=true∧N0.all cleanB=true:=by
      simp only [Bool.or_eq_true,Bool.and_eq_true] at hcond
      rcases hcond with h1 | h1
      ·exact absurd h1 hid
      ·exact h1
     have hargs:VRL w (Rd I μ (look H)) Mu.none (ts.map (reify H 4)) vs.toList:=by
      refine ⟨by simpa using hvs.1,fun k t v h1 h2=>?_⟩
      obtain ⟨u,hu,rfl⟩:=map_get h1
      exact reify_ok hr 4 (hvs.2 k u v hu h2)
     have hlt:Lt w (Rd I μ (look H)):=by
      refine ⟨fun b k h=>?_,fun p hp=>⟨(hr.lt.g p hp).1,fun k=>.inl ((hr.lt.g p hp).2 k)⟩⟩
      rcases h with h | h
      ·exact hr.lt b k h
      ·exact foot_lt hr h
     refine (hcall _ _ _ hres w _ vs hlt hargs).mono fun e w' ⟨vv,I1,μ1,he,hx,hII,hnew,hr1,hvr,hfoot,hdom⟩=>?_
     have hr1':HR w' I μ1 (look N0):=by
      refine ⟨fun id sz l hl=>?_,hr1.disj,fun b k hf hi=>?_,hr.lt.same hx⟩
      ·obtain ⟨loc,c,ty,fr,a1,a2,a3⟩:=hr1.live id sz l hl
       refine ⟨loc,c,ty,fr,a1,a2,a3.hsz,a3.hty,a3.size,a3.fits,a3.frozen,a3.each,fun i xs k t hi hk=>?_⟩
       obtain ⟨u,b1,b2⟩:=a3.cells i xs k t hi hk
       refine ⟨u,b1,clean_ok 0 ?_ b2⟩
       have hmem:Blk.live sz l ∈ N0:=List.mem_of_getElem? (look_live.1 hl)
       have h1:=List.all_eq_true.1 hclean.2 _ hmem
       simp only [cleanB,List.all_eq_true] at h1
       exact h1 xs (List.mem_of_getElem? hi) t (List.mem_of_getElem? hk)
      ·have h1:=hfoot b k hf
       have h2:=hr.lt b k hi
       omega
     obtain ⟨μ',g1,g2,g3,g4,g5⟩:=join_ok (base:=base) hr hx hfree' (fun _ _ h=>h) (fun _ _ h=>.inl h) hr1' hfoot hdom
     exact ⟨vv,I,μ',he,hx,fun _ _ h=>h,fun _ _ h=>.inl h,g1,by simpa using g2,g4,shift_ok g3 2 (clean_ok 2 hclean.1 hvr),g5⟩
   ·cases h
theorem opA_call {f:Nat} {args:Array Operand} {ts:Array TypeId} {args':List Opd} (hS:∀ f F,S.rule f=some F→RuleOk P f F) (ho:o.op=.call { callee:=.value (.func f),args:=args,argTypes:=ts }) (hx:TrXs args.toList args')
  (hr:HR w I μ (look H)) (he:ER w I μ e a.tmps) (hfree:∀ id,base≤id→id < base+N.length→μ id=none) (h:opA S e H base (.call f args')=some (v,N)):AOk P o a w I μ (look H) base v N:=by
 simp only [opA] at h
 have hvs:VRL w I μ (args'.map (ev e)) (args.map a.eval).toList:=by simpa using hx.ok he
 obtain ⟨hent,hc⟩:=callRule_ok hS hr hfree hvs h
 intro K Q hK
 unfold Oper.wp
 have hrun:(execOp a.eval o).run P w=.ok (.enter f (args.map a.eval)) w:=by
  simp [execOp,ho,resolve,Act.eval,Deferred.ofValue,invoke,run_callFunc hent]
 rw [hrun]
 simp only [Oper.upon]
 refine hc.mono fun en w' ⟨vv,I',μ',hen,hx,h1,h2,h3,h4,h5,h6,h7⟩=>?_
 subst hen
 exact hK vv w' I' μ' hx h1 h2 h3 h4 h5 h6 h7
theorem opA_callv {f:Operand} {f':Opd} {args:Array Operand} {ts:Array TypeId} {args':List Opd} (hS:∀ f F,S.rule f=some F→RuleOk P f F) (ho:o.op=.call { callee:=.value f,args:=args,argTypes:=ts }) (hf:TrX f f') (hx:TrXs args.toList args')
  (hr:HR w I μ (look H)) (he:ER w I μ e a.tmps) (hfree:∀ id,base≤id→id < base+N.length→μ id=none) (h:opA S e H base (.callv f' args')=some (v,N)):AOk P o a w I μ (look H) base v N:=by
 simp only [opA] at h
 have hfv:=hf.ok he
 generalize hct:ev e f'=ct at h hfv
 generalize hcv:a.eval f=cv at hfv
 cases hfv with
 | fn _ g x y xs ys hx1 hy1 hx2 hy2 =>
  simp only at h
  have hvs:VRL w I μ (x++args'.map (ev e)++y) (xs++args.map a.eval++ys).toList:=by
   have h1:VRL w I μ x xs.toList:=⟨by simpa using hx1,fun k t v a1 a2=>hx2 k t v a1 (by simpa [← Array.getElem?_toList] using a2)⟩
   have h2:VRL w I μ y ys.toList:=⟨by simpa using hy1,fun k t v a1 a2=>hy2 k t v a1 (by simpa [← Array.getElem?_toList] using a2)⟩
   have h3:VRL w I μ (args'.map (ev e)) (args.map a.eval).toList:=by simpa using hx.ok he
   simpa using (h1.append h3).append h2
  obtain ⟨hent,hc⟩:=callRule_ok hS hr hfree hvs h
  intro K Q hK
  unfold Oper.wp
  have hrun:(execOp a.eval o).run P w=.ok (.enter g (xs++args.map a.eval++ys)) w:=by
   simp [execOp,ho,resolve,hcv,Deferred.ofValue,invoke,run_callFunc hent]
  rw [hrun]
  simp only [Oper.upon]
  refine hc.mono fun en w' ⟨vv,I',μ',hen,hx,h1,h2,h3,h4,h5,h6,h7⟩=>?_
  subst hen
  exact hK vv w' I' μ' hx h1 h2 h3 h4 h5 h6 h7
 | _=>cases h
end
end Go.Proofs.TM
