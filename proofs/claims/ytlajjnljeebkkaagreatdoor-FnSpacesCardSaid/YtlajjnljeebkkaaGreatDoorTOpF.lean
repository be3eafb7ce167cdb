import Derived.Test.YtlajjnljeebkkaaGreatDoorTOpE
namespace Go.Proofs.TM
open Go
section
variable {P:Program} {S:Sys} {o:Oper} {a:Act} {w:World} {I:Nat→Nat→Prop} {μ:Mu} {e:Env} {H:Heap} {base:Nat} {v:TV} {N:List Blk}
theorem opA_toBytes {s d el:TypeId} {x:Operand} {y:Opd} (ho:o.op=.convert s d x) (hs:P.underlying s=some .string) (hd:P.underlying d=some (.slice el)) (hel:P.underlying el=some (.int .u8)) (hx:TrX x y)
  (hr:HR w I μ (look H)) (he:ER w I μ e a.tmps) (hfree:∀ id,base≤id→id < base+N.length→μ id=none) (h:opA S e H base (.conv .toBytes y)=some (v,N)):AOk P o a w I μ (look H) base v N:=by
 have hv:=hx.ok he
 simp only [opA] at h
 generalize hct:ev e y=ct at h hv
 generalize hcv':a.eval x=cv at hv
 cases hv <;> simp only [reduceCtorEq] at h
 rename_i b
 split at h
 ·rename_i hlen
  simp only [Option.some.injEq,Prod.mk.injEq] at h
  obtain ⟨rfl,rfl⟩:=h
  let cap:=(Question.appendCap b.size 0 el).cut (w.tape w.drawn (.appendCap b.size 0 el))
  have hcap:b.size≤cap:=Nat.le_add_right _ _
  let cs:Array Value:=(b.data.map fun b=>.int .u8 b.toNat)++Array.replicate (cap - b.size) (.int .u8 0)
  have hsz:cs.size=cap:=by
   show ((b.data.map fun b=>Value.int .u8 b.toNat)++Array.replicate (cap - b.size) (Value.int .u8 0)).size=cap
   simp
   have:b.data.size=b.size:=rfl
   omega
  let w1:World:=w.drew.alloc (.cells cs el)
  let w2:World:=w1.freeze { block:=w.drew.heap.size,off:=cs.size } 1
  have hb1:w1.heap[w.drew.heap.size]?=some (.cells cs el):=heap_alloc_new w.drew _
  have hb2:w2.heap[w.drew.heap.size]?=some (.cells cs el (cs.size,cs.size+1)):=by
   show (w1.freeze { block:=w.drew.heap.size,off:=cs.size } 1).heap[w.drew.heap.size]?=_
   simp only [World.freeze,Nat.one_ne_zero,if_false,Array.getElem?_modify,if_true,hb1,Option.map_some]
   simp
  have hx2:Ext w.drew w2:=by
   have h1:=Ext.alloc w.drew (.cells cs el)
   refine ⟨h1.os,h1.tape,h1.output,?_,fun k hk=>?_⟩
   ·show _≤(w1.freeze _ 1).heap.size
    simp only [World.freeze,Nat.one_ne_zero,if_false,Array.size_modify]
    exact h1.size
   ·show (w1.freeze { block:=w.drew.heap.size,off:=cs.size } 1).heap[k]?=_
    simp only [World.freeze,Nat.one_ne_zero,if_false,Array.getElem?_modify]
    rw [if_neg (by omega)]
    exact h1.block k hk
  have hrun:(execOp a.eval o).run P w=.ok (.value (.slice (some ⟨w.drew.heap.size,0,none⟩) b.size cap)) w2:=by
   have hsh:w1.shape? w.drew.heap.size=some (el,cs.size):=by unfold World.shape?;rw [hb1]
   have hsh2:(w.drew.alloc (.cells ((b.data.map fun b=>Value.int .u8 b.toNat)++Array.replicate ((Question.appendCap b.size 0 el).cut (w.tape w.drawn (.appendCap b.size 0 el)) - b.size) (.int .u8 0)) el)).shape? w.heap.size=some (el,cs.size):=hsh
   simp only [execOp,ho,hcv',convert,Sem.run_bind,underlying,run_program,hs,hd,hel,Result.andThen_ok,Sem.run_pure,Conv.stringToBytes,run_choose,Question.forced,Bool.false_eq_true,if_false,newRow,run_newObj,World.drew_eq,World.alloc_eq,
    markStringish,run_shape,World.size_drew,hsh2,run_freeze]
   rfl
  have hl:(b.data.toList.map fun b=>[TV.int .u8 b.toNat]).length=b.size:=by simp
  have hbl:b.data.toList.length=b.size:=by simp
  rw [hbl]
  refine AOk.row (cs:=cs) (ty:=el) (fr:=(cs.size,cs.size+1)) (top:=cap) (cap:=cap) hr (hfree base (Nat.le_refl _) (by simp)) (Ext.drew w) w2 hx2 hb2 (fun k hk=>?_) hl (by omega) (by omega) hcap (fun h=>by cases h) (fun μ' hm=>⟨fun xs hx=>?_,fun i' xs k t hi' hk=>?_⟩) hrun
  ·simp [frz];omega
  ·simp only [List.mem_map] at hx;obtain ⟨c,_,rfl⟩:=hx;rfl
  ·obtain ⟨c,hc,rfl⟩:=map_get hi'
   cases k with
   | zero =>
    simp only [List.getElem?_cons_zero,Option.some.injEq] at hk
    subst hk
    refine ⟨.int .u8 c.toNat,?_,.int _ _ _⟩
    have hlt:i' < b.data.size:=by have:=(List.getElem?_eq_some_iff.1 hc).1;simpa using this
    show ((b.data.map fun b=>Value.int .u8 b.toNat)++Array.replicate (cap - b.size) (Value.int .u8 0))[i' * 1+0]?=_
    simp only [Nat.mul_one,Nat.add_zero]
    rw [Array.getElem?_append_left (by simpa using hlt)]
    have hc':b.data[i']?=some c:=by simpa using hc
    simp [hc']
   | succ k=>simp at hk
 ·cases h
theorem bytes_of:∀ {l:List (List TV)} {s:List UInt8},allSome (l.map toByte)=some s→∃ ns:List Int,l=ns.map (fun n=>[.int .u8 n])∧s=ns.map fun n=>UInt8.ofNat n.toNat
 | [],s,h=>by simp only [List.map_nil,allSome,Option.some.injEq] at h;subst h;exact ⟨[],rfl,rfl⟩
 | xs::l,s,h=>by
  simp only [List.map_cons] at h
  unfold toByte at h
  split at h
  ·rename_i n
   simp only [allSome,Option.map_eq_some_iff] at h
   obtain ⟨r,h1,rfl⟩:=h
   obtain ⟨ns,h2,h3⟩:=bytes_of (l:=l) h1
   exact ⟨n::ns,by simp [h2],by simp [h3]⟩
  ·cases h
theorem push_list:∀ (ns:List Int) (b:ByteArray),(ns.foldl (fun r n=>r.push (UInt8.ofNat n.toNat)) b).data.toList=b.data.toList++ns.map fun n=>UInt8.ofNat n.toNat
 | [],b=>by simp
 | n::ns,b=>by
  simp only [List.foldl_cons,List.map_cons]
  rw [push_list ns]
  simp [ByteArray.push]
theorem opA_toStr {s d el:TypeId} {x:Operand} {y:Opd} (ho:o.op=.convert s d x) (hs:P.underlying s=some (.slice el)) (hd:P.underlying d=some .string) (hel:P.underlying el=some (.int .u8)) (hx:TrX x y)
  (hr:HR w I μ (look H)) (he:ER w I μ e a.tmps) (h:opA S e H base (.conv .toStr y)=some (v,N)):AOk P o a w I μ (look H) base v N:=by
 have hv:=hx.ok he
 simp only [opA] at h
 split at h
 ·cases h
 rename_i hns
 cases hb:elems H (ev e y) with
 | none=>rw [hb] at h;cases h
 | some l =>
  rw [hb] at h
  have h':=h
  simp only [Option.map_eq_some_iff,Prod.mk.injEq] at h'
  obtain ⟨str,hstr,rfl,rfl⟩:=h'
  obtain ⟨ns,rfl,rfl⟩:=bytes_of hstr
  obtain ⟨news,r1,r2,r3⟩:=src_ok (P:=P) hr hv hb (sz:=1) (fun xs hx=>by simp only [List.mem_map] at hx;obtain ⟨n,_,rfl⟩:=hx;rfl)
  have hnews:news=ns.map (Value.int .u8):=by
   apply List.ext_getElem?
   intro j
   by_cases hj:j < ns.length
   ·obtain ⟨vv,h1,h2⟩:=r1.2.2 j [.int .u8 ns[j]] 0 (.int .u8 ns[j]) (by simp [hj]) rfl
    simp only [Nat.mul_one,Nat.add_zero] at h1
    cases h2
    rw [h1]
    simp [hj]
   ·have:news.length=ns.length:=by rw [r1.1];simp
    rw [List.getElem?_eq_none (by omega),List.getElem?_eq_none (by simp;omega)]
  subst hnews
  have r3':=r3 w (Ext.refl w)
  have r2':=r2 w
  simp only [List.length_map] at r2' r3'
  have fin:∀ {ad:Option Addr} {len cap:Nat},a.eval x=.slice ad len cap→AOk P o a w I μ (look H) base (.str (ns.map fun n=>UInt8.ofNat n.toNat)) []:=by
   intro ad len cap hc
   have hlen:len=ns.length:=by
    rw [hc] at r2'
    simpa [Builtin.lenOf] using r2'
   subst hlen
   have hrun:∃ b:ByteArray,(Conv.bytesToString (.slice ad ns.length cap)).run P w=.ok (.string b) w∧b.data.toList=ns.map fun n=>UInt8.ofNat n.toNat:=by
    cases ad with
    | none =>
     rw [hc] at r3'
     simp only [Builtin.firstCells,Sem.run_pure,Result.ok.injEq,and_true] at r3'
     have hn:ns=[]:=by
      have:=congrArg Array.size r3'
      simp at this
      exact List.eq_nil_of_length_eq_zero this.symm
     subst hn
     exact ⟨.empty,by simp [Conv.bytesToString],by simp⟩
    | some A =>
     rw [hc] at r3'
     simp only [Builtin.firstCells,Nat.mul_one] at r3'
     refine ⟨_,run_bytesToString (P:=P) w A ns.length cap ns r3',?_⟩
     rw [push_list]
     simp
   obtain ⟨b,hb1,hb2⟩:=hrun
   refine AOk.pure (vv:=.string b) hr ?_ (by rw [← hb2];exact .str _ _)
   have:=run_convert_bytes_string (P:=P) w s d el ad ns.length cap hs hel hd
   simp only [execOp,ho,hc,Sem.run_bind,this,hb1,Result.andThen_ok,Sem.run_pure]
  generalize hcv':a.eval x=cv at hv fin
  generalize hct:ev e y=ct at hv hb
  cases hv with
  | vs=>exact fin rfl
  | hs=>exact fin rfl
  | hc=>exact fin rfl
  | es=>exact fin rfl
  | nils=>exact fin rfl
  | ne=>exact fin rfl
  | str _ b=>exfalso;apply hns;rw [hct];rfl
  | _=>simp [elems] at hb
end
end Go.Proofs.TM
