import Derived.Test.YtlajjnljeebkkaaGreatDoorTTree
import Derived.Laws.StructEq
import Derived.ChangeKeysEq
namespace Go.Proofs.TM
open Go
def Enters (P : Program) (f : Nat) : Prop := ∃ fn, P.funcs[f]? = some fn ∧ (fn.name == "runtime.NumGoroutine") = false ∧ fn.body.isNone = false
theorem run_callFunc {P:Program} {f:Nat} (h:Enters P f) (args:Array Value) (w:World):(callFunc f args).run P w=.ok (.enter f args) w:=by
 obtain ⟨fn,h1,h2,h3⟩:=h
 have h2' : ¬ fn.name = "runtime.NumGoroutine" := by simpa using h2
 have h3':¬ fn.body=none:=fun hh=>by rw [hh] at h3;cases h3
 simp [callFunc,h1,h2',h3']
inductive TrXs:List Operand→List Opd→Prop
 | nil:TrXs [] []
 | cons {x y xs ys} (h:TrX x y) (hs:TrXs xs ys):TrXs (x::xs) (y::ys)
def VRL (w:World) (I:Nat→Nat→Prop) (μ:Mu) (ts:List TV) (vs:List Value):Prop :=
 ts.length=vs.length∧∀ (k:Nat) (t:TV) (v:Value),ts[k]?=some t→vs[k]?=some v→VR w I μ t v
theorem VRL.nil {w:World} {I:Nat→Nat→Prop} {μ:Mu}:VRL w I μ [] []:=⟨rfl,fun k t v h=>by simp at h⟩
theorem VRL.cons {w:World} {I:Nat→Nat→Prop} {μ:Mu} {t:TV} {v:Value} {ts:List TV} {vs:List Value} (h:VR w I μ t v) (hs:VRL w I μ ts vs):VRL w I μ (t::ts) (v::vs) :=
 ⟨by simp [hs.1],fun k t' v' h1 h2=>by
  cases k with
  | zero=>simp only [List.getElem?_cons_zero,Option.some.injEq] at h1 h2;subst h1;subst h2;exact h
  | succ k=>exact hs.2 k t' v' (by simpa using h1) (by simpa using h2)⟩
theorem VRL.append {w:World} {I:Nat→Nat→Prop} {μ:Mu} {ts ts':List TV} {vs vs':List Value} (h:VRL w I μ ts vs) (h':VRL w I μ ts' vs'):VRL w I μ (ts++ts') (vs++vs') :=
 ⟨by simp [h.1,h'.1],fun k t v h1 h2=>by
  by_cases hk:k < ts.length
  ·rw [List.getElem?_append_left hk] at h1
   rw [List.getElem?_append_left (by rw [← h.1];exact hk)] at h2
   exact h.2 k t v h1 h2
  ·rw [List.getElem?_append_right (by omega)] at h1
   rw [List.getElem?_append_right (by rw [← h.1];omega),← h.1] at h2
   exact h'.2 _ t v h1 h2⟩
theorem TrXs.ok {xs:List Operand} {ys:List Opd} (h:TrXs xs ys) {w:World} {I:Nat→Nat→Prop} {μ:Mu} {e:Env} {a:Act} (he:ER w I μ e a.tmps):VRL w I μ (ys.map (ev e)) (xs.map a.eval):=by
 induction h with
 | nil=>exact .nil
 | cons h hs ih=>exact .cons (h.ok he) ih
def fldKs (P:Program):Nat→List Field→Option (List Nat)
 | _,[]=>some []
 | i,f::fs =>
  if f.offset = i ∧ f.name ≠ "_" then
   match P.underlying f.type,fldKs P (i+1) fs with
   | some (.int _),some ks=>some (0::ks)
   | some .string,some ks=>some (1::ks)
   | some .bool,some ks=>some (2::ks)
   | _,_=>none
  else none
inductive CmpTy (P:Program) (t:TypeId) (y:Opd):BK→Prop
 | num (k) (h:P.underlying t=some (.int k)):CmpTy P t y .num
 | str (h:P.underlying t=some .string):CmpTy P t y .str
 | bool (h:P.underlying t=some .bool):CmpTy P t y .bool
 | ptr (u) (h:P.underlying t=some (.pointer u)) (hy:y=.c .nilp):CmpTy P t y .nil
 | func (a b c) (h:P.underlying t=some (.func a b c)) (hy:y=.c .nilf):CmpTy P t y .nil
 | slice (u) (h:P.underlying t=some (.slice u)) (hy:y=.c .nils):CmpTy P t y .nil
 | iface (u) (h:P.underlying t=some (.interface u)) (hy:y=.c .nili):CmpTy P t y .nil
 | agg (ks) (h:P.underlying t=some (.struct (P.fieldsOf t))) (hs:P.stoodInHeld t=false) (hg:P.eqGuardType P.depth t=false) (hk:fldKs P 0 (P.fieldsOf t).toList=some ks):CmpTy P t y (.agg ks)
inductive TrParts (places:List (Nat×Nat)):List (Nat×Operand)→List (Nat×Nat×Opd)→Prop
 | nil:TrParts places [] []
 | cons {i x off size y ps qs} (hp:places[i]?=some (off,size)) (h:TrX x y) (hs:TrParts places ps qs):TrParts places ((i,x)::ps) ((off,size,y)::qs)
inductive TrItems:List (Nat×Operand)→List (Nat×Opd)→Prop
 | nil:TrItems [] []
 | cons {i x y ps qs} (h:TrX x y) (hs:TrItems ps qs):TrItems ((i,x)::ps) ((i,y)::qs)
inductive TrOp (P:Program):Op→TOp→Prop
 | move {x y} (h:TrX x y):TrOp P (.move x) (.mv y)
 | assign {x y} (h:TrX x y):TrOp P (.assign x) (.mv y)
 | pick {c a b c' a' b'} (hc:TrX c c') (ha:TrX a a') (hb:TrX b b'):TrOp P (.pick c a b) (.pick c' a' b')
 | alloc {t i z zero} (hi:P.info? t=some i) (hz:i.zero=some z) (hc:allSome (z.cells.toList.map ofV1)=some zero):TrOp P (.alloc t) (.alloc zero)
 | allocB {t i z} (hi:P.info? t=some i) (hz:i.zero=some z) (hc:z.cells=#[.pointer none,.slice none 0 0]):TrOp P (.alloc t) (.allocB t)
 | sdata {x x' ts} (hx:TrX x x'):TrOp P (.call { callee:=.builtin .unsafeSliceData,args:=#[x],argTypes:=ts }) (.sdata x')
 | ustr {pt it e x y x' y'} (hp:P.underlying pt=some (.pointer e)) (hc:P.cellsOf e=1) (hx:TrX x x') (hy:TrX y y'):TrOp P (.call { callee:=.builtin .unsafeString,args:=#[x,y],argTypes:=#[pt,it] }) (.ustr e x' y')
 | box {t x y} (h:TrX x y):TrOp P (.box t x) (.box y)
 | load {t n x y} (ht:aggSize P t=some n) (h:TrX x y):TrOp P (.load t x) (.load n y)
 | nilchk {x y} (h:TrX x y):TrOp P (.nilCheck x) (.nilchk y)
 | bin {k op t u x y x' y'} (ht:CmpTy P t y' k) (hx:TrX x x') (hy:TrX y y'):TrOp P (.binOp op t x y u) (.bin k op x' y')
 | un {op t x y} (h:TrX x y):TrOp P (.unOp op t x) (.un op y)
 | toInt {s d k x y ds} (hs:P.underlying s=some ds) (hd:P.underlying d=some (.int k)) (h:TrX x y):TrOp P (.convert s d x) (.conv (.toInt k) y)
 | same {s d x y} (hs:P.underlying s=some .string) (hd:P.underlying d=some .string) (h:TrX x y):TrOp P (.convert s d x) (.conv .same y)
 | mkfn {f a b a' b'} (ha:TrXs a.toList a') (hb:TrXs b.toList b'):TrOp P (.makeFunc (.func f) a b) (.mkfn f a' b')
 | faddr {s x y f fs fd i} (hs:P.underlying s=some (.struct fs)) (hf:fs[f]?=some fd) (hi:P.info? fd.type=some i) (hz:i.size ≠ 0) (h:TrX x y):TrOp P (.fieldAddr s x f) (.faddr fd.offset y)
 | iaddr {t x ix x' ix' e i} (ht:P.underlying t=some (.slice e)) (hi:P.info? e=some i) (hx:TrX x x') (hix:TrX ix ix'):TrOp P (.indexAddr t x ix) (.iaddr i.size x' ix')
 | index {t x ix x' ix'} (ht:P.underlying t=some .string) (hx:TrX x x') (hix:TrX ix ix'):TrOp P (.index t x ix) (.index x' ix')
 | indexA {t n el i x ix x' ix'} (ht:P.underlying t=some (.array n el)) (hel:P.underlying el=some .string) (hi:P.info? el=some i) (hs:i.size=1) (hx:TrX x x') (hix:TrX ix ix'):TrOp P (.index t x ix) (.indexA n x' ix')
 | buildA {t i z zero n el ie parts parts'} (hi:P.info? t=some i) (hu:P.underlying t=some (.array n el)) (hie:P.info? el=some ie) (hz:i.zero=some z) (hc:allSome (z.cells.toList.map ofV1)=some zero)
   (hps:TrParts ((List.range n).map fun k=>(k * ie.size,ie.size)) parts.toList parts'):TrOp P (.build t parts) (.build zero parts')
 | build {t i z zero fs places parts parts'} (hi:P.info? t=some i) (hu:P.underlying t=some (.struct fs)) (hz:i.zero=some z) (hc:allSome (z.cells.toList.map ofV1)=some zero)
   (hp:fs.toList.mapM (fun f=>(P.info? f.type).map fun i=>(f.offset,i.size))=some places) (hps:TrParts places parts.toList parts'):TrOp P (.build t parts) (.build zero parts')
 | bslice {t el i z zero n parts parts'} (hu:P.underlying t=some (.slice el)) (hi:P.info? el=some i) (hz:i.zero=some z) (hc:allSome (z.cells.toList.map ofV1)=some zero) (hs:i.size=zero.length) (hn:n * zero.length≤16777216)
   (hps:TrItems parts.toList parts'):TrOp P (.buildSlice t n parts) (.bslice zero n parts')
 | mkslice {t el i z zero x y x' y'} (hu:P.underlying t=some (.slice el)) (hi:P.info? el=some i) (hz:i.zero=some z) (hc:allSome (z.cells.toList.map ofV1)=some zero) (hs:i.size=zero.length)
   (hx:TrX x x') (hy:TrX y y'):TrOp P (.makeSlice t x y) (.mkslice i.bytes zero x' y')
 | toBytes {s d el x y} (hs:P.underlying s=some .string) (hd:P.underlying d=some (.slice el)) (he:P.underlying el=some (.int .u8)) (h:TrX x y):TrOp P (.convert s d x) (.conv .toBytes y)
 | toStr {s d el x y} (hs:P.underlying s=some (.slice el)) (hd:P.underlying d=some .string) (he:P.underlying el=some (.int .u8)) (h:TrX x y):TrOp P (.convert s d x) (.conv .toStr y)
 | append {t u du el i z s x s' x'} (ht:P.underlying t=some (.slice el)) (hu:P.underlying u=some du) (hdu:du=.string∨∃ e,du=.slice e) (hi:P.info? el=some i) (hz:i.zero=some z) (hzs:z.cells.size=i.size) (hpos:0 < i.size)
   (hs:TrX s s') (hx:TrX x x'):TrOp P (.call { callee:=.builtin .append,args:=#[s,x],argTypes:=#[t,u] }) (.append el i.size i.bytes s' x')
 | store {t i x y x' y'} (hi:P.info? t=some i) (hx:TrX x x') (hy:TrX y y'):TrOp P (.store t x y) (.store i.size x' y')
 | ext {x y n} (h:TrX x y):TrOp P (.extract x n) (.ext y n)
 | sliceS {t x lo hi x' lo' hi'} (ht:P.underlying t=some .string) (hx:TrX x x') (hlo:TrXs lo.toList lo'.toList) (hhi:TrXs hi.toList hi'.toList):TrOp P (.slice t x lo hi none) (.sliceS x' lo' hi')
 | slice {t e i x lo hi mx x' lo' hi' mx'} (ht:P.underlying t=some (.slice e)) (hin:P.info? e=some i) (hx:TrX x x') (hlo:TrXs lo.toList lo'.toList) (hhi:TrXs hi.toList hi'.toList) (hmx:TrXs mx.toList mx'.toList) :
   TrOp P (.slice t x lo hi mx) (.slice i.size x' lo' hi' mx')
 | recut {t e i x lo hi x' lo' hi'} (ht:P.underlying t=some (.slice e)) (hin:P.info? e=some i) (hx:TrX x x') (hlo:TrXs lo.toList lo'.toList) (hhi:TrXs hi.toList hi'.toList):TrOp P (.slice t x lo hi none) (.recut i.size x' lo' hi')
 | copy {t u el i x y x' y'} (ht:P.underlying t=some (.slice el)) (hi:P.info? el=some i) (hx:TrX x x') (hy:TrX y y'):TrOp P (.call { callee:=.builtin .copy,args:=#[x,y],argTypes:=#[t,u] }) (.copy i.size x' y')
 | cap {t x y el} (ht:P.underlying t=some (.slice el)) (h:TrX x y):TrOp P (.call { callee:=.builtin .cap,args:=#[x],argTypes:=#[t] }) (.cap y)
 | appz {t u el i z zero x y x' y'} (ht:P.underlying t=some (.slice el)) (hu:P.underlying u=some (.int .i64)) (hi:P.info? el=some i) (hz:i.zero=some z) (hc:allSome (z.cells.toList.map ofV1)=some zero)
   (hs:i.size=zero.length) (hpos:0 < i.size) (hx:TrX x x') (hy:TrX y y'):TrOp P (.call { callee:=.builtin .append,args:=#[x,y],argTypes:=#[t,u] }) (.appz i.bytes zero x' y')
 | ovl {f x y x' y' ts} (hx:TrX x x') (hy:TrX y y'):TrOp P (.call { callee:=.value (.func f),args:=#[x,y],argTypes:=ts }) (.ovl f x' y')
 | lenS {t x y} (ht:P.underlying t=some .string) (h:TrX x y):TrOp P (.call { callee:=.builtin .len,args:=#[x],argTypes:=#[t] }) (.len true y)
 | len {t x y el} (ht:P.underlying t=some (.slice el)) (h:TrX x y):TrOp P (.call { callee:=.builtin .len,args:=#[x],argTypes:=#[t] }) (.len false y)
 | min {ts x y x' y'} (hx:TrX x x') (hy:TrX y y'):TrOp P (.call { callee:=.builtin .min,args:=#[x,y],argTypes:=ts }) (.mm false x' y')
 | max {ts x y x' y'} (hx:TrX x x') (hy:TrX y y'):TrOp P (.call { callee:=.builtin .max,args:=#[x,y],argTypes:=ts }) (.mm true x' y')
 | call {f args ts args'} (h:TrXs args.toList args'):TrOp P (.call { callee:=.value (.func f),args:=args,argTypes:=ts }) (.call f args')
 | callv {f f' args ts args'} (hf:TrX f f') (h:TrXs args.toList args'):TrOp P (.call { callee:=.value f,args:=args,argTypes:=ts }) (.callv f' args')
 | callM {f tag ids args ts args'} (h:TrXs args.toList args'):TrOp P (.call { callee:=.value (.func f),args:=args,argTypes:=ts }) (.callM f tag ids args')
 | callvM {f f' tag ids args ts args'} (hf:TrX f f') (h:TrXs args.toList args'):TrOp P (.call { callee:=.value f,args:=args,argTypes:=ts }) (.callvM f' tag ids args')
section
variable {P:Program} {S:Sys} {o:Oper} {a:Act} {w:World} {I:Nat→Nat→Prop} {μ:Mu} {e:Env} {H:Heap} {base:Nat} {v:TV} {N:List Blk}
theorem opA_mv {x:Operand} {y:Opd} (ho:o.op=.move x∨o.op=.assign x) (hx:TrX x y) (hr:HR w I μ (look H)) (he:ER w I μ e a.tmps) (h:opA S e H base (.mv y)=some (v,N)):AOk P o a w I μ (look H) base v N:=by
 simp only [opA,Option.some.injEq,Prod.mk.injEq] at h
 obtain ⟨rfl,rfl⟩:=h
 refine AOk.pure hr ?_ (hx.ok he)
 rcases ho with ho | ho <;> simp [execOp,ho]
theorem opA_pick {c x y:Operand} {c' x' y':Opd} (ho:o.op=.pick c x y) (hc:TrX c c') (hx:TrX x x') (hy:TrX y y') (hr:HR w I μ (look H)) (he:ER w I μ e a.tmps) (h:opA S e H base (.pick c' x' y')=some (v,N)) :
  AOk P o a w I μ (look H) base v N:=by
 have hcv:=hc.ok he
 simp only [opA] at h
 generalize hct:ev e c'=ct at h hcv
 generalize hcv':a.eval c=cv at hcv
 cases hcv with
 | bool μ b =>
  simp only [Option.some.injEq,Prod.mk.injEq] at h
  obtain ⟨rfl,rfl⟩:=h
  refine AOk.pure (vv:=if b then a.eval x else a.eval y) hr ?_ ?_
  ·simp [execOp,ho,hcv',asBool]
  ·cases b
   ·exact hy.ok he
   ·exact hx.ok he
 | _=>cases h
theorem opA_load {t:TypeId} {n:Option Nat} {x:Operand} {y:Opd} (ho:o.op=.load t x) (ht:aggSize P t=some n) (hx:TrX x y) (hr:HR w I μ (look H)) (he:ER w I μ e a.tmps) (h:opA S e H base (.load n y)=some (v,N)) :
  AOk P o a w I μ (look H) base v N:=by
 simp only [opA] at h
 cases hc:cellsAt H (ev e y) with
 | none=>rw [hc] at h;cases h
 | some cs =>
  rw [hc] at h
  simp only [Option.map_eq_some_iff,Prod.mk.injEq] at h
  obtain ⟨tv,hp,rfl,rfl⟩:=h
  obtain ⟨A,hA,hok⟩:=cellsAt_ok hr (hx.ok he) hc
  obtain ⟨vv,h1,h2⟩:=run_loadVar (P:=P) ht hok hp
  exact AOk.pure hr (by simp [execOp,ho,hA,Instr.loadAt,Instr.sureAddr,h1]) h2
theorem opA_nilchk {x:Operand} {y:Opd} (ho:o.op=.nilCheck x) (hx:TrX x y) (hr:HR w I μ (look H)) (he:ER w I μ e a.tmps) (h:opA S e H base (.nilchk y)=some (v,N)) :
  AOk P o a w I μ (look H) base v N:=by
 have hv:=hx.ok he
 simp only [opA] at h
 generalize hct:ev e y=ct at h hv
 generalize hcv':a.eval x=cv at hv
 cases hv with
 | ptr μ id i j loc hm =>
  simp only [Option.some.injEq,Prod.mk.injEq] at h;obtain ⟨rfl,rfl⟩:=h
  exact AOk.pure hr (by simp [execOp,ho,hcv']) (.ptr _ _ _ _ _ hm)
 | vp μ cells b o' val hc hv =>
  simp only [Option.some.injEq,Prod.mk.injEq] at h;obtain ⟨rfl,rfl⟩:=h
  exact AOk.pure hr (by simp [execOp,ho,hcv']) (.vp _ _ _ _ val hc hv)
 | fn μ f x' y' xs ys h1 h2 h3 h4 =>
  simp only [Option.some.injEq,Prod.mk.injEq] at h;obtain ⟨rfl,rfl⟩:=h
  exact AOk.pure hr (by simp [execOp,ho,hcv']) (.fn _ _ _ _ _ _ h1 h2 h3 h4)
 | _=>cases h
theorem opA_alloc {t:TypeId} {i:TypeInfo} {z:Value} {zero:List TV} (ho:o.op=.alloc t) (hi:P.info? t=some i) (hz:i.zero=some z) (hc:allSome (z.cells.toList.map ofV1)=some zero)
  (hr:HR w I μ (look H)) (hfree:∀ id,base≤id→id < base+N.length→μ id=none) (h:opA S e H base (.alloc zero)=some (v,N)):AOk P o a w I μ (look H) base v N:=by
 simp only [opA] at h
 split at h
 ·simp only [Option.some.injEq,Prod.mk.injEq] at h
  obtain ⟨rfl,rfl⟩:=h
  obtain ⟨hl,hcs⟩:=cells_ok hc (w.alloc (.cells z.cells t)) I Mu.none
  refine AOk.new (vv:=.pointer (some ⟨w.heap.size,0,none⟩)) (c:=z.cells) (ty:=t) (fr:=(0,0)) (top:=zero.length) hr (hfree base (Nat.le_refl _) (by simp)) (Ext.refl w) (w.alloc (.cells z.cells t)) (Ext.alloc _ _) (by show (w.heap.push _)[w.heap.size]?=_;simp) ?_ (fun μ' hm=>?_) (fun μ' hm hb=>?_)
  ·simp [execOp,ho,Instr.alloc,zeroValue,typeInfo,hi,hz,newVar,newRow]
  ·refine ⟨rfl,⟨rfl,rfl⟩,by simp [hl],by simp,fun k _ _=>by simp [frz],fun xs hx=>by simp at hx;subst hx;rfl,fun i' xs k t' h1 h2=>?_⟩
   have hi':i'=0:=by
    have:=(List.getElem?_eq_some_iff.1 h1).1
    simp at this;exact this
   subst hi'
   simp only [List.getElem?_cons_zero,Option.some.injEq] at h1
   subst h1
   have hk:k < z.cells.size:=by rw [← hl];exact (List.getElem?_eq_some_iff.1 h2).1
   refine ⟨z.cells[k],by simp [hk],?_⟩
   exact (hcs k t' _ h2 (by simp [hk])).any
  ·have:=VR.ptr (w:=w.alloc (.cells z.cells t)) (I:=I) μ' base 0 0 _ hb
   simpa using this
 ·cases h
theorem opA_allocB {t:TypeId} {i:TypeInfo} {z:Value} (ho:o.op=.alloc t) (hi:P.info? t=some i) (hz:i.zero=some z) (hc:z.cells=#[.pointer none,.slice none 0 0])
  (hr:HR w I μ (look H)) (hfree:∀ id,base≤id→id < base+N.length→μ id=none) (h:opA S e H base (.allocB t)=some (v,N)):AOk P o a w I μ (look H) base v N:=by
 simp only [opA,Option.some.injEq,Prod.mk.injEq] at h
 obtain ⟨rfl,rfl⟩:=h
 let nl:Loc:=⟨w.heap.size,0,2,2,t,z.cells.size⟩
 let μn:Mu:=fun id=>if id=base then some nl else μ id
 have hbl:∀ μ':Mu,μ' base=some nl→BlkOk (w.alloc (.cells z.cells t)) I μ' 2 [[.bself base t,.nb]] nl z.cells t (0,0):=fun μ' hb=>by
  refine ⟨rfl,⟨rfl,rfl⟩,by simp [hc,nl],by simp [nl],fun k _ _=>by simp [frz],fun xs hx=>by simp at hx;subst hx;rfl,fun i' xs k t' h1 h2=>?_⟩
  have hi':i'=0:=by
   have:=(List.getElem?_eq_some_iff.1 h1).1
   simp at this;exact this
  subst hi'
  simp only [List.getElem?_cons_zero,Option.some.injEq] at h1
  subst h1
  match k,h2 with
  | 0,h2 =>
   simp only [List.getElem?_cons_zero,Option.some.injEq] at h2
   subst h2
   exact ⟨.pointer none,by simp [hc,nl],.bself _ _ _ _ nl hb rfl rfl (by simp [hc,nl]) (.inl rfl)⟩
  | 1,h2 =>
   simp only [List.getElem?_cons_succ,List.getElem?_cons_zero,Option.some.injEq] at h2
   subst h2
   exact ⟨.slice none 0 0,by simp [hc,nl],.nb _⟩
 refine AOk.padD (AOk.newB (vv:=.pointer (some ⟨w.heap.size,0,none⟩)) (c:=z.cells) (ty:=t) (fr:=(0,0)) (top:=2) hr (hfree base (Nat.le_refl _) (by simp)) (Ext.refl w) (w.alloc (.cells z.cells t)) (Ext.alloc _ _) (by show (w.heap.push _)[w.heap.size]?=_;simp) ?_ (fun μ' hm hb=>hbl μ' hb) (fun μ' hm hb=>?_))
 ·simp [execOp,ho,Instr.alloc,zeroValue,typeInfo,hi,hz,newVar,newRow]
 ·have:=VR.ptr (w:=w.alloc (.cells z.cells t)) (I:=I) μ' base 0 0 _ hb
  simpa using this
theorem opA_sdata {x:Operand} {x':Opd} {ts:Array TypeId} (ho:o.op=.call { callee:=.builtin .unsafeSliceData,args:=#[x],argTypes:=ts }) (hx:TrX x x') (hr:HR w I μ (look H)) (he:ER w I μ e a.tmps) (h:opA S e H base (.sdata x')=some (v,N)) :
  AOk P o a w I μ (look H) base v N:=by
 have hv:=hx.ok he
 simp only [opA] at h
 generalize hct:ev e x'=ct at h hv
 generalize hcv':a.eval x=cv at hv
 have exec:∀ {vv:Value},(∀ t,(Builtin.unsafeSliceData_ ts t #[cv]).run P w=.ok vv w)→(execOp a.eval o).run P w=.ok (.value vv) w:=fun hh=>by
  simp only [execOp,ho,resolve,invoke,builtin,Sem.run_bind,Sem.run_pure,Result.andThen_ok,List.map_toArray,List.map_cons,List.map_nil,hcv',hh]
 cases hv with
 | nb =>
  simp only [Option.some.injEq,Prod.mk.injEq] at h;obtain ⟨rfl,rfl⟩:=h
  exact AOk.pure hr (exec fun t=>rfl) (.nilp _)
 | hb _ id len T loc cap hm hT h0 hsz htop hcap hlen hpos =>
  simp only [Option.some.injEq,Prod.mk.injEq] at h;obtain ⟨rfl,rfl⟩:=h
  refine AOk.pure hr (exec (vv:=.pointer (some ⟨loc.blk,0,none⟩)) fun t=>?_) (.bd _ _ _ loc hm hT h0 hsz htop)
  obtain ⟨k,rfl⟩:∃ k,cap=k+1:=⟨cap - 1,by omega⟩
  rfl
 | _=>cases h
theorem cellsOf_ok {t:TV} {cs:List TV} (h:cellsOf t=some cs) {w:World} {I:Nat→Nat→Prop} {μ:Mu} {v:Value} (hv:VR w I μ t v) :
  cs.length=v.cells.size∧∀ (k:Nat) (t:TV) (u:Value),cs[k]?=some t→v.cells[k]?=some u→VR w I μ t u:=by
 have one:∀ {t:TV} {v:Value},VR w I μ t v→v.cells=#[v]→([t]:List TV).length=v.cells.size∧∀ (k:Nat) (t':TV) (u:Value),[t][k]?=some t'→v.cells[k]?=some u→VR w I μ t' u:=fun h hc=>by
  rw [hc]
  refine ⟨rfl,fun k t' u h1 h2=>?_⟩
  cases k with
  | zero=>simp at h1 h2;subst h1;subst h2;exact h
  | succ k=>simp at h1
 cases hv with
 | undef=>cases h
 | agg _ l cs' hn hh=>simp only [cellsOf,Option.some.injEq] at h;subst h;exact ⟨hn,hh⟩
 | tup=>cases h
 | int=>simp only [cellsOf,Option.some.injEq] at h;subst h;exact one (.int _ _ _) rfl
 | bool=>simp only [cellsOf,Option.some.injEq] at h;subst h;exact one (.bool _ _) rfl
 | str=>simp only [cellsOf,Option.some.injEq] at h;subst h;exact one (.str _ _) rfl
 | nilp=>simp only [cellsOf,Option.some.injEq] at h;subst h;exact one (.nilp _) rfl
 | ptr _ id i j loc hm=>simp only [cellsOf,Option.some.injEq] at h;subst h;exact one (.ptr _ _ _ _ _ hm) rfl
 | vp _ cells b o val hc hv=>simp only [cellsOf,Option.some.injEq] at h;subst h;exact one (.vp _ _ _ _ val hc hv) rfl
 | vs _ l a cap sz b o val hcap ha hsz hc hv=>simp only [cellsOf,Option.some.injEq] at h;subst h;exact one (.vs _ _ _ _ sz b o val hcap ha hsz hc hv) rfl
 | hs _ id off len full loc a cap hm ha hlen htop hf=>simp only [cellsOf,Option.some.injEq] at h;subst h;exact one (.hs _ _ _ _ _ loc a cap hm ha hlen htop hf) rfl
 | hc _ id off len cap loc a hm ha hlen htop=>simp only [cellsOf,Option.some.injEq] at h;subst h;exact one (.hc _ _ _ _ _ loc a hm ha hlen htop) rfl
 | es=>simp only [cellsOf,Option.some.injEq] at h;subst h;exact one (.es _ _) rfl
 | nils=>simp only [cellsOf,Option.some.injEq] at h;subst h;exact one (.nils _) rfl
 | ne=>simp only [cellsOf,Option.some.injEq] at h;subst h;exact one (.ne _ _ _) rfl
 | fn _ f a b x y hx hy ha hb=>simp only [cellsOf,Option.some.injEq] at h;subst h;exact one (.fn _ _ _ _ _ _ hx hy ha hb) rfl
 | nilf=>simp only [cellsOf,Option.some.injEq] at h;subst h;exact one (.nilf _) rfl
 | iface _ t u v hh=>simp only [cellsOf,Option.some.injEq] at h;subst h;exact one (.iface _ _ _ _ hh) rfl
 | nili=>simp only [cellsOf,Option.some.injEq] at h;subst h;exact one (.nili _) rfl
 | bself _ id T v loc hm hT h0 hc hv =>
  simp only [cellsOf,Option.some.injEq] at h
  subst h
  refine one (.bself _ _ _ _ loc hm hT h0 hc hv) ?_
  rcases hv with rfl | rfl <;> rfl
 | nb=>simp only [cellsOf,Option.some.injEq] at h;subst h;exact one (.nb _) rfl
 | hb _ id len T loc cap hm hT h0 hsz htop hcap hlen hpos=>simp only [cellsOf,Option.some.injEq] at h;subst h;exact one (.hb _ _ _ _ loc _ hm hT h0 hsz htop hcap hlen hpos) rfl
 | bd _ id T loc hm hT h0 hsz htop=>simp only [cellsOf,Option.some.injEq] at h;subst h;exact one (.bd _ _ _ loc hm hT h0 hsz htop) rfl
theorem opA_box {t:TypeId} {x:Operand} {y:Opd} (ho:o.op=.box t x) (hx:TrX x y)
  (hr:HR w I μ (look H)) (he:ER w I μ e a.tmps) (hfree:∀ id,base≤id→id < base+N.length→μ id=none) (h:opA S e H base (.box y)=some (v,N)):AOk P o a w I μ (look H) base v N:=by
 simp only [opA] at h
 cases hcs:cellsOf (ev e y) with
 | none=>rw [hcs] at h;cases h
 | some cs =>
  rw [hcs] at h
  simp only [Option.some.injEq,Prod.mk.injEq] at h
  obtain ⟨rfl,rfl⟩:=h
  obtain ⟨hl,hc⟩:=cellsOf_ok hcs (hx.ok he)
  refine AOk.new (vv:=.pointer (some ⟨w.heap.size,0,none⟩)) (c:=(a.eval x).cells) (ty:=t) (fr:=(0,0)) (top:=cs.length) hr (hfree base (Nat.le_refl _) (by simp)) (Ext.refl w) (w.alloc (.cells (a.eval x).cells t)) (Ext.alloc _ _) (by show (w.heap.push _)[w.heap.size]?=_;simp) ?_ (fun μ' hm=>?_) (fun μ' hm hb=>?_)
  ·simp [execOp,ho,Instr.box,newVar,newRow]
  ·refine ⟨rfl,⟨rfl,rfl⟩,by simp [hl],by simp,fun k _ _=>by simp [frz],fun xs hx=>by simp at hx;subst hx;rfl,fun i' xs k t' h1 h2=>?_⟩
   have hi':i'=0:=by
    have:=(List.getElem?_eq_some_iff.1 h1).1
    simp at this;exact this
   subst hi'
   simp only [List.getElem?_cons_zero,Option.some.injEq] at h1
   subst h1
   have hk:k < (a.eval x).cells.size:=by rw [← hl];exact (List.getElem?_eq_some_iff.1 h2).1
   refine ⟨(a.eval x).cells[k],by simp [hk],?_⟩
   exact (hc k t' _ h2 (by simp [hk])).mono ((Ext.alloc w _).same I) (fun _ _ h=>h) _ hm
  ·have:=VR.ptr (w:=w.alloc (.cells (a.eval x).cells t)) (I:=I) μ' base 0 0 _ hb
   simpa using this
theorem opA_mkfn {f:Nat} {x y:Array Operand} {x' y':List Opd} (ho:o.op=.makeFunc (.func f) x y) (hx:TrXs x.toList x') (hy:TrXs y.toList y')
  (hr:HR w I μ (look H)) (he:ER w I μ e a.tmps) (h:opA S e H base (.mkfn f x' y')=some (v,N)):AOk P o a w I μ (look H) base v N:=by
 simp only [opA,Option.some.injEq,Prod.mk.injEq] at h
 obtain ⟨rfl,rfl⟩:=h
 obtain ⟨h1,h2⟩:=hx.ok he
 obtain ⟨k1,k2⟩:=hy.ok he
 refine AOk.pure (vv:=.func (.func f) (x.map a.eval) (y.map a.eval)) hr (by simp [execOp,ho,Instr.makeFunc]) (.fn _ _ _ _ _ _ (by simpa using h1) (by simpa using k1) (fun k t v a1 a2=>h2 k t v a1 (by simpa [← Array.getElem?_toList] using a2)) (fun k t v a1 a2=>k2 k t v a1 (by simpa [← Array.getElem?_toList] using a2)))
theorem opA_faddr {s:TypeId} {x:Operand} {y:Opd} {f:Nat} {fs:Array Field} {fd:Field} {i:TypeInfo} (ho:o.op=.fieldAddr s x f) (hs:P.underlying s=some (.struct fs)) (hf:fs[f]?=some fd) (hi:P.info? fd.type=some i)
  (hz:i.size ≠ 0) (hx:TrX x y) (hr:HR w I μ (look H)) (he:ER w I μ e a.tmps) (h:opA S e H base (.faddr fd.offset y)=some (v,N)):AOk P o a w I μ (look H) base v N:=by
 have hv:=hx.ok he
 simp only [opA] at h
 generalize hct:ev e y=ct at h hv
 generalize hcv':a.eval x=cv at hv
 have run:∀ A:Addr,A.spot=none→cv=.pointer (some A)→(execOp a.eval o).run P w=.ok (.value (.pointer (some ⟨A.block,A.off+fd.offset,none⟩))) w:=fun A hA hcv=>by
  have:=addr_add A hA fd.offset
  simp [execOp,ho,hcv',hcv,Instr.fieldAt,underlying,hs,hf,Instr.sureAddr,fieldPlace,sizeOf,typeInfo,hi,hz,this]
 cases hv with
 | ptr μ id i' j loc hm =>
  simp only [Option.some.injEq,Prod.mk.injEq] at h;obtain ⟨rfl,rfl⟩:=h
  have:=VR.ptr (w:=w) (I:=I) _ id i' (j+fd.offset) _ hm
  rw [show loc.off+i' * loc.sz+(j+fd.offset)=loc.off+i' * loc.sz+j+fd.offset by omega] at this
  exact AOk.pure hr (run _ rfl rfl) this
 | vp μ cells b o' val hc hv =>
  simp only [Option.some.injEq,Prod.mk.injEq] at h;obtain ⟨rfl,rfl⟩:=h
  refine AOk.pure hr (run _ rfl rfl) (.vp _ _ b (o'+fd.offset) (fun k=>val (fd.offset+k)) (fun k t hk=>?_) (fun k t hk=>?_))
  ·rw [List.getElem?_drop] at hk
   have:=hc _ t hk
   rw [show o'+fd.offset+k=o'+(fd.offset+k) by omega]
   exact this
  ·rw [List.getElem?_drop] at hk
   exact hv _ t hk
 | _=>cases h
theorem opA_ext {x:Operand} {y:Opd} {n:Nat} (ho:o.op=.extract x n) (hx:TrX x y) (hr:HR w I μ (look H)) (he:ER w I μ e a.tmps) (h:opA S e H base (.ext y n)=some (v,N)):AOk P o a w I μ (look H) base v N:=by
 have hv:=hx.ok he
 simp only [opA] at h
 generalize hct:ev e y=ct at h hv
 generalize hcv':a.eval x=cv at hv
 cases hv with
 | tup μ l cs hn hh =>
  simp only [Option.map_eq_some_iff,Prod.mk.injEq] at h
  obtain ⟨t,ht,rfl,rfl⟩:=h
  have hlt:n < cs.size:=by rw [← hn];exact (List.getElem?_eq_some_iff.1 ht).1
  exact AOk.pure hr (by simp [execOp,ho,hcv',Instr.extract,hlt]) (hh n t cs[n] ht (by simp [hlt]))
 | _=>cases h
end
end Go.Proofs.TM
