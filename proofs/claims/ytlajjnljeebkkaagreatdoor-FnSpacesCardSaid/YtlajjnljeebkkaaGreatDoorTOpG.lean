import Derived.Test.YtlajjnljeebkkaaGreatDoorTCall
import Derived.Lib.AppendZerosOnto
import Derived.Lib.Overlaps
namespace Go.Proofs.TM
open Go
section
variable {P:Program} {S:Sys} {o:Oper} {a:Act} {w:World} {I:Nat→Nat→Prop} {μ:Mu} {e:Env} {H:Heap} {base:Nat} {v:TV} {N:List Blk}
theorem opA_cap {t el:TypeId} {x:Operand} {y:Opd} (ho:o.op=.call { callee:=.builtin .cap,args:=#[x],argTypes:=#[t] }) (ht:P.underlying t=some (.slice el)) (hx:TrX x y)
  (hr:HR w I μ (look H)) (he:ER w I μ e a.tmps) (h:opA S e H base (.cap y)=some (v,N)):AOk P o a w I μ (look H) base v N:=by
 have hv:=hx.ok he
 simp only [opA] at h
 generalize hct:ev e y=ct at h hv
 generalize hcv':a.eval x=cv at hv
 have run:∀ {ad:Option Addr} {n cap:Nat},cv=.slice ad n cap→(execOp a.eval o).run P w=.ok (.value (.int .i64 (cap:Int))) w:=fun {ad n cap} hc=>by
  subst hc
  simp only [execOp,ho,resolve,invoke,builtin,Sem.run_bind,Sem.run_pure,Result.andThen_ok,List.map_toArray,List.map_cons,List.map_nil,hcv',Builtin.cap_,underlying,run_program,ht,goInt,
    List.getElem?_toArray,List.getElem?_cons_zero]
 cases hv <;> simp only [Option.some.injEq,Prod.mk.injEq,reduceCtorEq] at h
 all_goals obtain ⟨rfl,rfl⟩:=h
 all_goals exact AOk.pure hr (run rfl) (.int _ _ _)
theorem opA_appz {t u el:TypeId} {i:TypeInfo} {z:Value} {zero:List TV} {x y:Operand} {x' y':Opd} (ho:o.op=.call { callee:=.builtin .append,args:=#[x,y],argTypes:=#[t,u] }) (ht:P.underlying t=some (.slice el)) (hu:P.underlying u=some (.int .i64))
  (hi:P.info? el=some i) (hz:i.zero=some z) (hc:allSome (z.cells.toList.map ofV1)=some zero) (hs:i.size=zero.length) (hpos:0 < i.size) (hx:TrX x x') (hy:TrX y y')
  (hr:HR w I μ (look H)) (he:ER w I μ e a.tmps) (hfree:∀ id,base≤id→id < base+N.length→μ id=none) (h:opA S e H base (.appz i.bytes zero x' y')=some (v,N)):AOk P o a w I μ (look H) base v N:=by
 have hv:=hx.ok he
 have hw:=hy.ok he
 have hz':CellsOk w I μ zero z.cells:=cells_ok hc w I μ
 have exec:∀ {vv:Value} {w':World},(Builtin.append_ #[t,u] o.type #[a.eval x,a.eval y]).run P w=.ok vv w'→(execOp a.eval o).run P w=.ok (.value vv) w':=fun hh=>by
  simp only [execOp,ho,resolve,invoke,builtin,Sem.run_bind,Sem.run_pure,Result.andThen_ok,List.map_toArray,List.map_cons,List.map_nil,hh]
 simp only [opA] at h
 generalize hct:ev e x'=ct at h hv
 generalize hcv':a.eval x=cv at hv exec
 generalize hit:ev e y'=it at h hw
 generalize hiv':a.eval y=iv at hw exec
 cases hv with
 | hc _ id off len cap loc ad hm ha hlen htop =>
  cases hw with
  | int _ k n =>
   simp only at h
   cases hl:H[id]? with
   | none=>rw [hl] at h;cases h
   | some bk =>
    rw [hl] at h
    cases bk with
    | dead=>cases h
    | live sz l =>
     simp only at h
     split at h
     ·rename_i hh
      obtain ⟨h0,hroom,hsz,hfit,hbig⟩:=hh
      simp only [Option.some.injEq,Prod.mk.injEq] at h
      obtain ⟨rfl,rfl⟩:=h
      obtain ⟨m,rfl⟩:=Int.eq_ofNat_of_zero_le (Int.le_of_lt h0)
      simp only [Int.ofNat_eq_natCast,Int.toNat_natCast,maxRow] at hroom hbig ⊢
      have hm0:0 < m:=by omega
      obtain ⟨loc',c,ty,fr,h1,h2,h3⟩:=hr.live id _ l (look_live.2 hl)
      have hel:elems H (.hc id off len cap)=some ((l.drop off).take len):=by simp only [elems,hl,if_pos hfit]
      have hvr:VR w I μ (.hc id off len cap) (.slice ad len cap):=.hc _ _ _ _ _ loc _ hm ha hlen htop
      have hszi:sz=i.size:=by rw [hs];exact hsz
      obtain ⟨olds,o1,o2,o3⟩:=src_ok (P:=P) (sz:=i.size) hr hvr hel (fun xs hx=>by rw [← hszi];exact h3.each xs (List.mem_of_mem_drop (List.mem_of_mem_take hx)))
      have hll:((l.drop off).take len).length=len:=by simp;omega
      rw [hll] at o3
      have hzr:=RowA.rep hz' m
      have hb1:(len+m) * i.bytes≤140737488355328:=by
       have:(len+m) * i.bytes≤(len+m) * (i.bytes+1):=Nat.mul_le_mul_left _ (Nat.le_succ _)
       omega
      have hb2:len+m≤70368744177664:=by
       have:(len+m) * 1≤(len+m) * (i.bytes+1):=Nat.mul_le_mul_left _ (by omega)
       omega
      have hb3:m * i.bytes≤281474976710656:=by
       have:m * i.bytes≤(len+m) * i.bytes:=Nat.mul_le_mul_right _ (by omega)
       omega
      have hrun:=exec (Lib.run_append_grow_zeros (P:=P) w t u o.type el i z k .i64 ht hu hi hz ad len cap olds (o3 w.drew (Ext.drew w)) m hm0 hpos hroom (by omega) hb3 (growslice_fits hroom hb1))
      have hcap:=grown_ge w (len+m) cap el
      have hzc:(Builtin.zeroCells z.cells m).size=m * zero.length:=by simp [Builtin.zeroCells,← hz'.1]
      have hgc:(Builtin.zeroCells z.cells (grownCap w (len+m) cap el - (len+m))).size=(grownCap w (len+m) cap el - (len+m)) * zero.length:=by simp [Builtin.zeroCells,← hz'.1]
      have hol:olds.length=len * zero.length:=by rw [o1.1,hll,hs]
      have hext:Ext w (w.drew.alloc (.cells (olds.toArray++Builtin.zeroCells z.cells m++Builtin.zeroCells z.cells (grownCap w (len+m) cap el - (len+m))) el)):=(Ext.drew w).trans (Ext.alloc _ _)
      refine AOk.row (sz:=zero.length) (cs:=olds.toArray++Builtin.zeroCells z.cells m++Builtin.zeroCells z.cells (grownCap w (len+m) cap el - (len+m))) (ty:=el) (fr:=(0,0)) (top:=grownCap w (len+m) cap el * zero.length) (cap:=grownCap w (len+m) cap el)
       hr (hfree base (Nat.le_refl _) (by simp)) (Ext.drew w) (w.drew.alloc (.cells (olds.toArray++Builtin.zeroCells z.cells m++Builtin.zeroCells z.cells (grownCap w (len+m) cap el - (len+m))) el)) (Ext.alloc _ _) (heap_alloc_new w.drew _)
       (fun k _=>by simp [frz]) (by simp;omega) ?_ (Nat.le_refl _) hcap (fun h=>by cases h) (fun μ' hle=>?_) (by simpa using hrun)
      ·rw [Array.size_append,Array.size_append,List.size_toArray,hzc,hgc,hol,← Nat.add_mul,← Nat.add_mul]
       exact Nat.mul_le_mul_right _ (by omega)
      ·have ho':=o1.mono (hext.same I) (fun _ _ h=>h) hle
       refine ⟨fun xs hxs=>?_,fun i' xs q t' hi' hq=>?_⟩
       ·rcases List.mem_append.1 hxs with g | g
        ·rw [← hs];exact ho'.2.1 xs g
        ·rw [(List.mem_replicate.1 g).2]
       ·by_cases hil:i' < len
        ·rw [List.getElem?_append_left (by rw [hll];exact hil)] at hi'
         obtain ⟨vv,g1,g2⟩:=ho'.2.2 i' xs q t' hi' hq
         rw [hs] at g1
         refine ⟨vv,?_,g2⟩
         have hlt:=(List.getElem?_eq_some_iff.1 g1).1
         rw [Array.append_assoc,Array.getElem?_append_left (by simpa using hlt)]
         simpa using g1
        ·rw [List.getElem?_append_right (by rw [hll];omega),hll] at hi'
         obtain ⟨vv,g1,g2⟩:=hzr.2.2 (i' - len) xs q t' hi' hq
         refine ⟨vv,?_,g2.mono (hext.same I) (fun _ _ h=>h) _ hle⟩
         have hlt:=(Array.getElem?_eq_some_iff.1 g1).1
         have hmul:(i' - len) * zero.length=i' * zero.length - len * zero.length:=Nat.sub_mul _ _ _
         have hge:len * zero.length≤i' * zero.length:=Nat.mul_le_mul_right _ (by omega)
         have hzeq:Builtin.zeroCells z.cells m=(Array.range (m * zero.length)).map (z.cells[· % z.cells.size]!):=by simp only [Builtin.zeroCells,← hz'.1]
         rw [Array.append_assoc,Array.getElem?_append_right (by simp [hol];omega),Array.getElem?_append_left (by rw [hzc];simp at hlt;simp [hol];omega),hzeq]
         rw [show i' * zero.length+q - olds.toArray.size=(i' - len) * zero.length+q by simp [hol];omega]
         exact g1
     ·cases h
  | _=>cases h
 | _=>cases h
def OvlOk (P:Program) (f sz:Nat):Prop:=∃ tS tR el,P.underlying tS=some (.slice el)∧(∃ i,P.info? el=some i∧i.size=sz) ∧
 ∀ (args:Array Value) (w:World),(callFunc f args).run P w=((Extern.SlicesOverlaps.overlaps #[tS,tS] #[tR] args).run P w).andThen fun v w'=>.ok (.value v) w'
theorem run_ovl {tS tR el:TypeId} {sz:Nat} (ht:P.underlying tS=some (.slice el)) {i:TypeInfo} (hi:P.info? el=some i) (hs:i.size=sz) {ad ad':Option Addr} {la ca lb cb:Nat}
  (h:la ≠ 0→lb ≠ 0→sz ≠ 0→∃ A B c ty fr c' ty' fr',ad=some A∧ad'=some B∧w.heap[A.block]?=some (.cells c ty fr)∧w.heap[B.block]?=some (.cells c' ty' fr')∧frz fr A.off=false∧frz fr c.size=false∧c'.size ≠ 0 ∧
   (A.block=B.block→¬ (A.off < B.off+lb * sz∧B.off < A.off+la * sz))) :
  (Extern.SlicesOverlaps.overlaps #[tS,tS] #[tR] #[.slice ad la ca,.slice ad' lb cb]).run P w=.ok (.bool false) w:=by
 have hz:∀ w,(Go.sizeOf el).run P w=.ok sz w:=fun w=>by simp [Go.sizeOf,typeInfo,hi,hs]
 change Sem.run P (α:=Value) (do
  let some t := (#[tS, tS] : Array TypeId)[0]? | stuck "slices.overlaps: no parameter types"
  let .slice elem ← underlying t | stuck "slices.overlaps: slice type expected"
  let size ← sizeOf elem
  match ad,ad' with
  | some a,some b =>
   if la=0∨lb=0∨size=0 then pure (Value.bool false)
   else if a.block != b.block && (← frozen a) && (← frozen b) then unsupported .addressObserved
   else do
    if a.block != b.block then do
     noView a;noView b
     if ← mayBeOne a b then return Value.bool ((← choose (.extern "sameAddr.stringBytes" 2)) == 1)
    pure (Value.bool (a.block == b.block && a.off < b.off+lb * size && b.off < a.off+la * size))
  | _,_=>pure (Value.bool false)) w=_
 cases ad with
 | none=>simp [run_underlying ht,hz]
 | some A =>
  cases ad' with
  | none=>simp [run_underlying ht,hz]
  | some B =>
   by_cases h0:la=0∨lb=0∨sz=0
   ·simp [run_underlying ht,hz,h0]
   ·obtain ⟨A',B',c,ty,fr,c',ty',fr',e1,e2,h1,h2,h3,h4,h5,h6⟩:=h (fun hh=>h0 (.inl hh)) (fun hh=>h0 (.inr (.inl hh))) (fun hh=>h0 (.inr (.inr hh)))
    cases e1
    cases e2
    by_cases hb:A.block=B.block
    ·have h7:=h6 hb
     have hnb:(A.block != B.block)=false:=by simpa using hb
     have hnb':(A.block == B.block)=true:=by simpa using hb
     have h8:(decide (A.off < B.off+lb * sz) && decide (B.off < A.off+la * sz))=false:=by
      cases hd:(decide (A.off < B.off+lb * sz) && decide (B.off < A.off+la * sz)) with
      | false=>rfl
      | true=>simp only [Bool.and_eq_true,decide_eq_true_eq] at hd;exact absurd hd h7
     simp [run_underlying ht,hz,h0,hnb,hnb',h8]
    ·have hnb:(A.block != B.block)=true:=by simpa using hb
     have hnb':(A.block == B.block)=false:=by simpa using hb
     have hfa:w.frozen? A=false:=by simp only [World.frozen?,h1];exact h3
     have hfe:w.frozen? { block:=A.block,off:=c.size }=false:=by simp only [World.frozen?,h1];exact h4
     have hsa:w.shape? A.block=some (ty,c.size):=by simp [World.shape?,h1]
     obtain ⟨kB,hkB⟩:∃ kB,c'.size=kB+1:=⟨c'.size - 1,by omega⟩
     have hsb:w.shape? B.block=some (ty',kB+1):=by simp [World.shape?,h2,hkB]
     simp [run_underlying ht,hz,h0,hnb,hnb',frozen,noView,viewAt,mayBeOne,stringish,shape,Sem.run,hsa,hsb,hfa,hfe]
theorem rng_ok (hr:HR w I μ (look H)) {t:TV} {vv:Value} (hv:VR w I μ t vv) {id off len:Nat} (h:rng t=some (id,off,len)):∃ loc ad cap,vv=.slice ad len cap∧μ id=some loc∧len≤cap∧(cap=0∨ad=some ⟨loc.blk,loc.off+off * loc.sz,none⟩):=by
 cases hv <;> simp only [rng,Option.some.injEq,Prod.mk.injEq,reduceCtorEq] at h
 ·obtain ⟨rfl,rfl,rfl⟩:=h;exact ⟨_,_,_,rfl,by assumption,by assumption,by assumption⟩
 ·obtain ⟨rfl,rfl,rfl⟩:=h;exact ⟨_,_,_,rfl,by assumption,by assumption,by assumption⟩
theorem opA_ovl (hO:∀ f sz,S.ovl f=some sz→OvlOk P f sz) {f:Nat} {x y:Operand} {x' y':Opd} {ts:Array TypeId} (ho:o.op=.call { callee:=.value (.func f),args:=#[x,y],argTypes:=ts }) (hx:TrX x x') (hy:TrX y y')
  (hr:HR w I μ (look H)) (he:ER w I μ e a.tmps) (h:opA S e H base (.ovl f x' y')=some (v,N)):AOk P o a w I μ (look H) base v N:=by
 have hv:=hx.ok he
 have hw:=hy.ok he
 simp only [opA] at h
 split at h
 ·rename_i sz id off len id' off' len' q1 q2 q3
  split at h
  ·rename_i sz1 l1 sz2 l2 g1 g2
   split at h
   ·rename_i hh
    obtain ⟨hne,rfl,rfl,hf1,hf2⟩:=hh
    simp only [Option.some.injEq,Prod.mk.injEq] at h
    obtain ⟨rfl,rfl⟩:=h
    obtain ⟨tS,tR,el,ht,⟨i,hi,hs⟩,hcall⟩:=hO f _ q1
    rw [q2] at hv
    obtain ⟨loc',ad',cap',hvy,hm',hlen',ha'⟩:=rng_ok hr hw q3
    generalize hcv:a.eval x=cv at hv
    cases hv with
    | hs _ _ _ _ _ loc ad cap hm ha hlen htop hf =>
     obtain ⟨loc1,c,ty,fr,a1,a2,a3⟩:=hr.live id _ l1 (look_live.2 g1)
     rw [hm] at a1
     cases a1
     obtain ⟨loc2,c',ty',fr',b1,b2,b3⟩:=hr.live id' _ l2 (look_live.2 g2)
     rw [hm'] at b1
     cases b1
     obtain ⟨c0,ty0,fr0,n1,n2⟩:=(hf rfl).2
     rw [a2] at n1
     cases n1
     have hrun:=run_ovl (P:=P) (w:=w) (tR:=tR) ht hi hs (ad:=ad) (ad':=ad') (la:=len) (ca:=cap) (lb:=len') (cb:=cap') (fun z1 z2 z3=>?_)
     ·refine AOk.pure hr (vv:=.bool false) ?_ (.bool _ _)
      have hef:a.eval (.func f)=.func (.func f) #[] #[]:=rfl
      simp [execOp,ho,resolve,hef,Deferred.ofValue,invoke,hcall,hcv,hvy,hrun]
     ·have k1:=a3.hsz
      have k2:=b3.hsz
      have k3:=a3.fits
      have k4:=b3.fits
      have k5:=a3.size
      have k6:=b3.size
      have u1:(off+len) * sz2≤l1.length * sz2:=Nat.mul_le_mul_right _ hf1
      have u2:(off'+len') * sz2≤l2.length * sz2:=Nat.mul_le_mul_right _ hf2
      rw [Nat.add_mul] at u1 u2
      have p1:0 < len * sz2:=Nat.mul_pos (Nat.pos_of_ne_zero z1) (Nat.pos_of_ne_zero z3)
      have p2:0 < len' * sz2:=Nat.mul_pos (Nat.pos_of_ne_zero z2) (Nat.pos_of_ne_zero z3)
      have hA:ad=some ⟨loc.blk,loc.off+off * loc.sz,none⟩:=by
       rcases ha with h0 | h0
       ·omega
       ·exact h0
      have hB:ad'=some ⟨loc'.blk,loc'.off+off' * loc'.sz,none⟩:=by
       rcases ha' with h0 | h0
       ·omega
       ·exact h0
      rw [k1] at hA
      rw [k2] at hB
      refine ⟨_,_,c,ty,fr,c',ty',fr',hA,hB,a2,b2,a3.frozen _ (by show loc.off≤loc.off+off * sz2;omega) (by show loc.off+off * sz2 < loc.top;omega),by simp only [frz];simp;omega,by omega,fun hb hcon=>?_⟩
      have hb':loc.blk=loc'.blk:=hb
      have c1:loc.off+off * sz2 < loc'.off+off' * sz2+len' * sz2:=hcon.1
      have c2:loc'.off+off' * sz2 < loc.off+off * sz2+len * sz2:=hcon.2
      rcases Nat.le_total (loc.off+off * sz2) (loc'.off+off' * sz2) with hle | hle
      ·exact hr.disj id id' _ l1 _ l2 loc loc' (look_live.2 g1) (look_live.2 g2) hne hm hm' hb' (loc'.off+off' * sz2) (by omega) (by omega) (by omega) (by omega)
      ·exact hr.disj id id' _ l1 _ l2 loc loc' (look_live.2 g1) (look_live.2 g2) hne hm hm' hb' (loc.off+off * sz2) (by omega) (by omega) (by omega) (by omega)
   ·cases h
  ·cases h
 ·cases h
end
end Go.Proofs.TM
