import Derived.Test.YtlajjnljeebkkaaGreatDoorTOpA
namespace Go.Proofs.TM
open Go
section
variable {P:Program} {S:Sys} {o:Oper} {a:Act} {w:World} {I:Nat→Nat→Prop} {μ:Mu} {e:Env} {H:Heap} {base:Nat} {v:TV} {N:List Blk}
theorem opA_un {op:UnOp} {t:TypeId} {x:Operand} {y:Opd} (ho:o.op=.unOp op t x) (hx:TrX x y) (hr:HR w I μ (look H)) (he:ER w I μ e a.tmps) (h:opA S e H base (.un op y)=some (v,N)):AOk P o a w I μ (look H) base v N:=by
 have hv:=hx.ok he
 simp only [opA,Option.map_eq_some_iff,Prod.mk.injEq] at h
 obtain ⟨r,h,rfl,rfl⟩:=h
 generalize hct:ev e y=ct at h hv
 generalize hcv':a.eval x=cv at hv
 cases hv <;> cases op <;> simp only [unT,Option.some.injEq,Option.map_eq_some_iff,reduceCtorEq] at h
 ·subst h
  exact AOk.pure hr (by simp [execOp,ho,hcv',Op.unary,Op.intArith]) (.int _ _ _)
 ·obtain ⟨q,hq,rfl⟩:=h
  simp only [bitsI,Option.some.injEq] at hq
  subst hq
  exact AOk.pure hr (by simp [execOp,ho,hcv',Op.unary,Op.intBits]) (.int _ _ _)
 ·subst h
  exact AOk.pure hr (by simp [execOp,ho,hcv',Op.unary]) (.bool _ _)
theorem opA_toInt {s d:TypeId} {k:IntKind} {ds:TypeDesc} {x:Operand} {y:Opd} (ho:o.op=.convert s d x) (hs:P.underlying s=some ds) (hd:P.underlying d=some (.int k)) (hx:TrX x y) (hr:HR w I μ (look H)) (he:ER w I μ e a.tmps)
  (h:opA S e H base (.conv (.toInt k) y)=some (v,N)):AOk P o a w I μ (look H) base v N:=by
 have hv:=hx.ok he
 simp only [opA] at h
 generalize hct:ev e y=ct at h hv
 generalize hcv':a.eval x=cv at hv
 cases hv <;> simp only [Option.some.injEq,Prod.mk.injEq,reduceCtorEq] at h
 obtain ⟨rfl,rfl⟩:=h
 refine AOk.pure hr ?_ (.int _ _ _)
 simp only [execOp,ho,hcv',convert,Sem.run_bind,underlying,run_program,hs,hd,Result.andThen_ok,Sem.run_pure,Conv.intToInt]
theorem opA_same {s d:TypeId} {x:Operand} {y:Opd} (ho:o.op=.convert s d x) (hs:P.underlying s=some .string) (hd:P.underlying d=some .string) (hx:TrX x y) (hr:HR w I μ (look H)) (he:ER w I μ e a.tmps)
  (h:opA S e H base (.conv .same y)=some (v,N)):AOk P o a w I μ (look H) base v N:=by
 have hv:=hx.ok he
 simp only [opA] at h
 generalize hct:ev e y=ct at h hv
 generalize hcv':a.eval x=cv at hv
 cases hv <;> simp only [Option.some.injEq,Prod.mk.injEq,reduceCtorEq] at h
 obtain ⟨rfl,rfl⟩:=h
 refine AOk.pure hr ?_ (.str _ _)
 simp only [execOp,ho,hcv',convert,Sem.run_bind,underlying,run_program,hs,hd,Result.andThen_ok,Sem.run_pure]
theorem opA_iaddr {t el:TypeId} {i:TypeInfo} {x ix:Operand} {x' ix':Opd} (ho:o.op=.indexAddr t x ix) (ht:P.underlying t=some (.slice el)) (hi:P.info? el=some i) (hx:TrX x x') (hix:TrX ix ix')
  (hr:HR w I μ (look H)) (he:ER w I μ e a.tmps) (h:opA S e H base (.iaddr i.size x' ix')=some (v,N)):AOk P o a w I μ (look H) base v N:=by
 have hv:=hx.ok he
 have hw:=hix.ok he
 simp only [opA] at h
 generalize hct:ev e x'=ct at h hv
 generalize hcv':a.eval x=cv at hv
 generalize hit:ev e ix'=it at h hw
 generalize hiv':a.eval ix=iv at hw
 have run:∀ (A:Addr) (len cap:Nat) (k:IntKind) (n:Int),A.spot=none→cv=.slice (some A) len cap→iv=.int k n→0≤n→n < (len:Int) →
   (execOp a.eval o).run P w=.ok (.value (.pointer (some ⟨A.block,A.off+n.toNat * i.size,none⟩))) w:=fun A len cap k n hA h1 h2 h3 h4=>by
  have:=addr_add A hA (n.toNat * i.size)
  simp [execOp,ho,hcv',hiv',h1,h2,Instr.indexAt,asIntOf,underlying,ht,sizeOf,typeInfo,hi,h3,h4,this]
 cases hv with
 | vs _ l ad cap sz b off val hcap ha hsz hc hv =>
  cases hw with
  | int _ k n =>
   simp only at h
   split at h
   ·rename_i hn
    cases hx':l[n.toNat]? with
    | none=>rw [hx'] at h;cases h
    | some xs =>
     rw [hx'] at h
     simp only at h
     split at h
     ·rename_i hlen
      simp only [Option.some.injEq,Prod.mk.injEq] at h
      obtain ⟨rfl,rfl⟩:=h
      have hlt:n.toNat < l.length:=(List.getElem?_eq_some_iff.1 hx').1
      have hne:l ≠ []:=by intro hh;rw [hh] at hlt;simp at hlt
      have hsz':sz=i.size:=by rw [← hlen];exact (hsz xs (List.mem_of_getElem? hx')).symm
      subst hsz'
      refine AOk.pure hr (run _ _ _ k n rfl (by rw [ha hne]) rfl hn (by omega)) (.vp _ _ b _ (fun k=>val n.toNat k) (fun k t hk=>hc _ _ _ _ hx' hk) (fun k t hk=>hv _ _ _ _ hx' hk))
     ·cases h
   ·cases h
  | _=>cases h
 | hs _ id off len full loc ad cap hm ha hlen htop hf =>
  cases hw with
  | int _ k n =>
   simp only at h
   split at h
   ·rename_i hn
    cases hl:H[id]? with
    | none=>rw [hl] at h;cases h
    | some bk =>
     rw [hl] at h
     cases bk with
     | dead=>cases h
     | live sz' l =>
      simp only at h
      split at h
      ·rename_i hs
       simp only [Option.some.injEq,Prod.mk.injEq] at h
       obtain ⟨rfl,rfl⟩:=h
       subst hs
       obtain ⟨loc',c,ty,fr,h1,h2,h3⟩:=hr.live id _ l (look_live.2 hl)
       rw [hm] at h1
       cases h1
       have ha':ad=some ⟨loc.blk,loc.off+off * loc.sz,none⟩:=by
        rcases ha with h0 | h0
        ·omega
        ·exact h0
       have:=VR.ptr (w:=w) (I:=I) _ id (off+n.toNat) 0 _ hm
       refine AOk.pure hr (run _ _ _ k n rfl (by rw [ha']) rfl hn.1 hn.2) ?_
       rw [h3.hsz] at this
       simp only [h3.hsz]
       rw [show loc.off+off * i.size+n.toNat * i.size=loc.off+(off+n.toNat) * i.size+0 by rw [Nat.add_mul];omega]
       exact this
      ·cases h
   ·cases h
  | _=>cases h
 | _=>cases h
theorem opA_index {t:TypeId} {x ix:Operand} {x' ix':Opd} (ho:o.op=.index t x ix) (ht:P.underlying t=some .string) (hx:TrX x x') (hix:TrX ix ix')
  (hr:HR w I μ (look H)) (he:ER w I μ e a.tmps) (h:opA S e H base (.index x' ix')=some (v,N)):AOk P o a w I μ (look H) base v N:=by
 have hv:=hx.ok he
 have hw:=hix.ok he
 simp only [opA] at h
 generalize hct:ev e x'=ct at h hv
 generalize hcv':a.eval x=cv at hv
 generalize hit:ev e ix'=it at h hw
 generalize hiv':a.eval ix=iv at hw
 cases hv with
 | str _ s =>
  cases hw with
  | int _ k n =>
   simp only at h
   split at h
   ·rename_i hn
    simp only [Option.map_eq_some_iff,Prod.mk.injEq] at h
    obtain ⟨b,hb,rfl,rfl⟩:=h
    refine AOk.pure hr ?_ (.int _ _ _)
    have hb':s[n.toNat]?=some b:=by
     have hlt:n.toNat < s.size:=by have:=(List.getElem?_eq_some_iff.1 hb).1;simpa using this
     have h2:=(List.getElem?_eq_some_iff.1 hb).2
     simp only [Array.getElem_toList] at h2
     rw [getElem?_pos s n.toNat hlt]
     exact congrArg some h2
    simp only [execOp,ho,hcv',hiv',Instr.index,asIntOf,Sem.run_bind,Sem.run_pure,Result.andThen_ok,underlying,run_program,ht,hn,if_true,hb']
   ·cases h
  | _=>cases h
 | _=>cases h
theorem strsOf_ok {w:World} {I:Nat→Nat→Prop} {μ:Mu}:∀ {l:List TV} {ls:List (List UInt8)},strsOf l=some ls→∀ (k:Nat) (s:List UInt8),ls[k]?=some s→l[k]?=some (.str s)
 | [],ls,h,k,s,hk=>by simp only [strsOf,Option.some.injEq] at h;subst h;simp at hk
 | t::l,ls,h,k,s,hk=>by
  cases t <;> simp only [strsOf,reduceCtorEq] at h
  rename_i u
  simp only [Option.map_eq_some_iff] at h
  obtain ⟨m,hm,rfl⟩:=h
  cases k with
  | zero=>simp only [List.getElem?_cons_zero,Option.some.injEq] at hk;subst hk;rfl
  | succ k=>simp only [List.getElem?_cons_succ] at hk ⊢;exact strsOf_ok (w:=w) (I:=I) (μ:=μ) hm k s hk
theorem opA_indexA {t el:TypeId} {n:Nat} {i:TypeInfo} {x ix:Operand} {x' ix':Opd} (ho:o.op=.index t x ix) (ht:P.underlying t=some (.array n el)) (hel:P.underlying el=some .string) (hi:P.info? el=some i) (hs:i.size=1) (hx:TrX x x') (hix:TrX ix ix')
  (hr:HR w I μ (look H)) (he:ER w I μ e a.tmps) (h:opA S e H base (.indexA n x' ix')=some (v,N)):AOk P o a w I μ (look H) base v N:=by
 have hv:=hx.ok he
 have hw:=hix.ok he
 simp only [opA] at h
 generalize hct:ev e x'=ct at h hv
 generalize hcv':a.eval x=cv at hv
 generalize hit:ev e ix'=it at h hw
 generalize hiv':a.eval ix=iv at hw
 cases hv with
 | agg _ l cs hn hcs =>
  cases hw with
  | int _ k m =>
   simp only at h
   rw [Option.bind_eq_some_iff] at h
   obtain ⟨ls,hls,h⟩:=h
   split at h
   ·rename_i hm
    simp only [Option.map_eq_some_iff,Prod.mk.injEq] at h
    obtain ⟨s,hb,rfl,rfl⟩:=h
    have h1:=strsOf_ok (w:=w) (I:=I) (μ:=μ) hls _ _ hb
    have hlt:m.toNat < cs.size:=by rw [← hn];exact (List.getElem?_eq_some_iff.1 h1).1
    obtain ⟨u,hu⟩:∃ u,cs[m.toNat]?=some u:=⟨_,getElem?_pos cs m.toNat hlt⟩
    have h2:=hcs _ _ _ h1 hu
    refine AOk.pure hr ?_ h2
    have e1:(sizeOf el).run P w=.ok 1 w:=by simp [sizeOf,typeInfo,hi,hs]
    have e2:(isAgg el).run P w=.ok false w:=(run_isAgg (n:=none) (by unfold aggSize;rw [hel,hi]) w).1
    simp only [execOp,ho,hcv',hiv',Instr.index,asIntOf,Sem.run_bind,Sem.run_pure,Result.andThen_ok,underlying,run_program,ht,hm,and_self,if_true,e1,part,e2,Nat.mul_one,hu,Bool.false_eq_true,if_false]
   ·cases h
  | _=>cases h
 | _=>cases h
theorem opA_lenS {t:TypeId} {x:Operand} {y:Opd} (ho:o.op=.call { callee:=.builtin .len,args:=#[x],argTypes:=#[t] }) (ht:P.underlying t=some .string) (hx:TrX x y)
  (hr:HR w I μ (look H)) (he:ER w I μ e a.tmps) (h:opA S e H base (.len true y)=some (v,N)):AOk P o a w I μ (look H) base v N:=by
 have hv:=hx.ok he
 simp only [opA] at h
 generalize hct:ev e y=ct at h hv
 generalize hcv':a.eval x=cv at hv
 cases hv <;> simp only [Option.some.injEq,Prod.mk.injEq,reduceCtorEq] at h
 obtain ⟨rfl,rfl⟩:=h
 rename_i s
 refine AOk.pure (vv:=.int .i64 s.size) hr ?_ ?_
 ·simp only [execOp,ho,resolve,invoke,builtin,Sem.run_bind,Sem.run_pure,Result.andThen_ok,List.map_toArray,List.map_cons,List.map_nil,hcv',Builtin.len_,underlying,run_program,ht,goInt,
    List.getElem?_toArray,List.getElem?_cons_zero]
 ·have:s.data.toList.length=s.size:=by simp
  rw [this]
  exact .int _ _ _
theorem opA_len {t el:TypeId} {x:Operand} {y:Opd} (ho:o.op=.call { callee:=.builtin .len,args:=#[x],argTypes:=#[t] }) (ht:P.underlying t=some (.slice el)) (hx:TrX x y)
  (hr:HR w I μ (look H)) (he:ER w I μ e a.tmps) (h:opA S e H base (.len false y)=some (v,N)):AOk P o a w I μ (look H) base v N:=by
 have hv:=hx.ok he
 simp only [opA] at h
 generalize hct:ev e y=ct at h hv
 generalize hcv':a.eval x=cv at hv
 have run:∀ {ad:Option Addr} {n cap:Nat},cv=.slice ad n cap→(execOp a.eval o).run P w=.ok (.value (.int .i64 (n:Int))) w:=fun {ad n cap} hc=>by
  subst hc
  simp only [execOp,ho,resolve,invoke,builtin,Sem.run_bind,Sem.run_pure,Result.andThen_ok,List.map_toArray,List.map_cons,List.map_nil,hcv',Builtin.len_,underlying,run_program,ht,goInt,
    List.getElem?_toArray,List.getElem?_cons_zero]
 cases hv <;> simp only [Option.some.injEq,Prod.mk.injEq,reduceCtorEq] at h
 all_goals obtain ⟨rfl,rfl⟩:=h
 all_goals exact AOk.pure hr (run rfl) (.int _ _ _)
theorem opA_mm {ts:Array TypeId} {x y:Operand} {x' y':Opd} (isMax:Bool) (ho:o.op=.call { callee:=.builtin (if isMax then .max else .min),args:=#[x,y],argTypes:=ts }) (hx:TrX x x') (hy:TrX y y')
  (hr:HR w I μ (look H)) (he:ER w I μ e a.tmps) (h:opA S e H base (.mm isMax x' y')=some (v,N)):AOk P o a w I μ (look H) base v N:=by
 have hv:=hx.ok he
 have hw:=hy.ok he
 simp only [opA] at h
 generalize hct:ev e x'=ct at h hv
 generalize hcv':a.eval x=cv at hv
 generalize hit:ev e y'=it at h hw
 generalize hiv':a.eval y=iv at hw
 cases hv with
 | int _ k n =>
  cases hw with
  | int _ k' m =>
   simp only at h
   split at h
   ·rename_i hk
    subst hk
    simp only [Option.some.injEq,Prod.mk.injEq] at h
    obtain ⟨rfl,rfl⟩:=h
    cases isMax
    ·refine AOk.pure (vv:=.int k (if m < n then m else n)) hr ?_ ?_
     ·simp [execOp,ho,resolve,invoke,builtin,hcv',hiv',Builtin.min_,Builtin.min2]
     ·have:(if false=true then max n m else min n m)=if m < n then m else n:=by
       simp only [Bool.false_eq_true,if_false]
       rw [Int.min_def]
       split <;> split <;> omega
      rw [this]
      exact .int _ _ _
    ·refine AOk.pure (vv:=.int k (if m > n then m else n)) hr ?_ ?_
     ·simp [execOp,ho,resolve,invoke,builtin,hcv',hiv',Builtin.max_,Builtin.max2]
     ·have:(if true=true then max n m else min n m)=if m > n then m else n:=by
       simp only [if_true]
       rw [Int.max_def]
       split <;> split <;> omega
      rw [this]
      exact .int _ _ _
   ·cases h
  | _=>cases h
 | _=>cases h
end
end Go.Proofs.TM
