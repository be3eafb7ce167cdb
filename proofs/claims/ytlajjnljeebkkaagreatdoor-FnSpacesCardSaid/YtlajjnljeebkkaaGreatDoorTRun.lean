import Derived.Test.YtlajjnljeebkkaaGreatDoorTCallM
import Derived.Test.YtlajjnljeebkkaaGreatDoorTPerm
import Derived.LoopN
import Derived.StillTail
namespace Go.Proofs.TM
open Go
inductive TrG (ops:Array Oper):Option (Nat×Bool)→Option (Nat×Bool)→Prop
 | none:TrG ops none none
 | some {j t want} (h:(ops[j]?).bind (·.dst)=some t):TrG ops (some (j,want)) (some (t,want))
inductive TrO (P:Program) (nt:Nat) (ops:Array Oper):Oper→TO→Prop
 | mk {o:Oper} {to:TO} (hop:TrOp P o.op to.op) (hd:to.dst=o.dst) (hlt:∀ d,o.dst=some d→d < nt) (hg:TrG ops o.guard to.guard):TrO P nt ops o to
inductive TrOs (P:Program) (nt:Nat) (ops:Array Oper):List Oper→List TO→Prop
 | nil:TrOs P nt ops [] []
 | cons {o to os tos} (h:TrO P nt ops o to) (hs:TrOs P nt ops os tos):TrOs P nt ops (o::os) (to::tos)
inductive TrL (P:Program) (nt:Nat) (ops:Array Oper):List Oper→List TO→Prop
 | nil:TrL P nt ops [] []
 | cons {o to os tos} (h:TrO P nt ops o to) (hs:TrL P nt ops os tos):TrL P nt ops (o::os) (to::tos)
 | frz {t ids os tos} (hs:TrL P nt ops os tos):TrL P nt ops os (⟨some t,none,.frz ids (.t t)⟩::tos)
theorem TrOs.l {P:Program} {nt:Nat} {ops:Array Oper} {os:List Oper} {tos:List TO} (h:TrOs P nt ops os tos):TrL P nt ops os tos:=by
 induction h with
 | nil=>exact .nil
 | cons h _ ih=>exact .cons h ih
def edges (o:Oper):List Nat:=(o.after.toList.filter fun e=>Region.binds .any e).map (·.on)
def toTmps (to:TO):List Nat:=topTmps to.op++(match to.guard with | some (t,_)=>[t] | none=>[])
def isFloat (to:TO):Bool:=match to.guard,to.op with
 | none,.ext _ _=>true
 | _,_=>false
def floatOk (ops:Array Oper) (j:Nat):Bool :=
 match ops[j]? with
 | some oj=>(List.range ops.size).all fun i=>i == j || (match ops[i]? with
   | some oi=>(edges oi).contains j || (edges oj).contains i || oj.apart ops oi
   | none=>true)
 | none=>true
def drawOk (ops:Array Oper) (tos:List TO) (n:Nat) (ancs:List (List Nat)):Bool :=
 decide (n≤ops.size) && decide (ancs.length=ops.size) &&
 (List.range n).all (fun j=>((List.range ops.size).all fun i=>decide (i < n) || (ancs.getD i []).contains j) || ((match tos[j]? with | some to=>isFloat to | none=>false) && Region.noSelect ops && floatOk ops j)) &&
 (List.range ops.size).all (fun i=>match ops[i]?,ancs[i]?,tos[i]? with
  | some o,some an,some to =>
   (edges o).all (fun j=>decide (j < i)) &&
   an.all (fun b=>(edges o).contains b || (edges o).any fun j=>(ancs.getD j []).contains b) &&
   (if i < n then
    (List.range n).all (fun j=>match (tos[j]?).bind (·.dst) with
     | some d=>(!(toTmps to).contains d || (j != i && (edges o).contains j)) && (j == i || to.dst != some d)
     | none=>true)
   else true)
  | _,_,_=>false) &&
 Region.seqB .any ops (ops.size - n) n ((Array.range ops.size).map fun j=>decide (j < n))
def skO (to:TO):Option Nat×Option (Nat×Bool)×List Nat:=(to.dst,to.guard,toTmps to)
def drawFOk (ops:Array Oper) (sks:List (Option Nat×Option (Nat×Bool)×List Nat)) (n:Nat) (lates:List (Option (List Nat))) (ancs:List (List Nat)):Bool :=
 decide (n≤ops.size) && decide (ancs.length=ops.size) && decide (lates.length=n) &&
 (List.range ops.size).all (fun i=>match ops[i]?,ancs[i]?,sks[i]? with
  | some o,some an,some (d,g,ts) =>
   (edges o).all (fun j=>decide (j < i)) &&
   an.all (fun b=>(edges o).contains b || (edges o).any fun j=>(ancs.getD j []).contains b) &&
   (if i < n then
    (List.range n).all (fun j=>match (sks[j]?).bind (·.1) with
     | some dj=>(!ts.contains dj || (j != i && (edges o).contains j)) && (j == i || d != some dj)
     | none=>true) &&
    (match lates.getD i none with
    | none=>(List.range i).all fun j=>(lates.getD j none).isNone || an.contains j
    | some lt=>(List.range i).all fun j=>an.contains j || ((lates.getD j none).isNone && (match (sks[j]?).bind (·.1) with | some x=>lt.contains x | none=>false)))
   else (List.range n).all fun j=>an.contains j)
  | _,_,_=>false) &&
 Region.seqB .any ops (ops.size - n) n ((Array.range ops.size).map fun j=>decide (j < n))
inductive TrC (P:Program) (nt:Nat):Code→TC→Prop
 | skip:TrC P nt .skip .skip
 | bad {c}:TrC P nt c .bad
 | ops {id ops tos} (h:TrL P nt ops ops.toList tos):TrC P nt (.region id ops false) (.ops tos)
 | draw {id ops0 ops tos n ancs tl} (hp:Reord P ops0 ops) (hm:P.follows .mixedOrders=true) (h:TrOs P nt ops ops.toList tos) (hok:drawOk ops tos n ancs=true) (ht:TrL P nt ops (ops.toList.drop n) tl):TrC P nt (.region id ops0 true) (.draw ((ancs.zip tos).take n) tl)
 | drawF {id ops0 ops tos n lates ancs tl} (hp:Reord P ops0 ops) (hm:P.follows .mixedOrders=true) (h:TrOs P nt ops ops.toList tos) (hok:drawFOk ops (tos.map skO) n lates ancs=true) (ht:TrL P nt ops (ops.toList.drop n) tl):TrC P nt (.region id ops0 true) (.drawF ((lates.zip tos).take n) tl)
 | seq {a b a' b'} (ha:TrC P nt a a') (hb:TrC P nt b b'):TrC P nt (.seq a b) (.seq a' b')
 | cond {c a b c' a' b'} (hc:TrX c c') (ha:TrC P nt a a') (hb:TrC P nt b b'):TrC P nt (.cond c a b) (.cond c' a' b')
 | block {id a a'} (ha:TrC P nt a a'):TrC P nt (.block id a) (.block id a')
 | loop {a keep a'} (ha:TrC P nt a a'):TrC P nt (.loop a) (.loop keep a')
 | turn {a keep a' r} (ha:TrC P nt a a') (hr:TrC P nt (.loop a) r):TrC P nt (.loop a) (.turn keep a' r)
 | exit {id}:TrC P nt (.exit id) (.exit id)
 | ret:TrC P nt .ret .ret
 | keep {c k b} (h:TrC P nt c b):TrC P nt c (.keep k b)
 | after {c k b} (h:TrC P nt c b):TrC P nt c (.after b k)
 | trim {c l b} (h:TrC P nt c b):TrC P nt c (.trim l b)
 | fz {c t ids b} (h:TrC P nt c b):TrC P nt c (.fz t ids b)
def pinsOk (m:Nat):TC→Bool
 | .seq a b=>pinsOk m a && pinsOk m b
 | .cond _ a b=>pinsOk m a && pinsOk m b
 | .block _ a=>pinsOk m a
 | .loop _ a=>pinsOk m a
 | .turn _ a b=>pinsOk m a && pinsOk m b
 | .keep k b=>decide (m≤k.pin) && pinsOk m b
 | .after b k=>decide (m≤k.pin) && pinsOk m b
 | .trim _ b=>pinsOk m b
 | .fz _ _ b=>pinsOk m b
 | _=>true
theorem pinsOk_zero:∀ tc:TC,pinsOk 0 tc=true
 | .seq a b=>by simp [pinsOk,pinsOk_zero a,pinsOk_zero b]
 | .cond _ a b=>by simp [pinsOk,pinsOk_zero a,pinsOk_zero b]
 | .block _ a=>by simp [pinsOk,pinsOk_zero a]
 | .loop _ a=>by simp [pinsOk,pinsOk_zero a]
 | .turn _ a b=>by simp [pinsOk,pinsOk_zero a,pinsOk_zero b]
 | .keep k b=>by simp [pinsOk,pinsOk_zero b]
 | .after b k=>by simp [pinsOk,pinsOk_zero b]
 | .trim _ b=>by simp [pinsOk,pinsOk_zero b]
 | .fz _ _ b=>by simp [pinsOk,pinsOk_zero b]
 | .skip=>rfl
 | .bad=>rfl
 | .ops _=>rfl
 | .draw _ _=>rfl
 | .drawF ..=>rfl
 | .exit _=>rfl
 | .ret=>rfl
inductive TrR (P:Program):List ResultVar→List TRes→Prop
 | nil:TrR P [] []
 | tmp {t rs rs'} (h:TrR P rs rs'):TrR P (.tmp t::rs) (.t t::rs')
 | cell {a t n rs rs'} (ht:aggSize P t=some n) (h:TrR P rs rs'):TrR P (.cell a t::rs) (.cell a n::rs')
def FnOk (P:Program) (f:Nat) (tf:TFn):Prop :=
 Enters P f∧∃ fn c,P.funcs[f]?=some fn∧fn.body=some c∧TrC P fn.ntmps c tf.code∧TrR P fn.results.toList tf.res
structure SysOk (P:Program) (S:Sys):Prop where
 rule:∀ f F,S.rule f=some F→RuleOk P f F
 fn:∀ f tf,S.fn f=some tf→FnOk P f tf∧∀ m,pinsOk m tf.code=true
 mrule:∀ f tag (F:Nat×MRule),S.mrule f tag=some F→MRuleOk P f F.1 F.2
 ovl:∀ f sz,S.ovl f=some sz→OvlOk P f sz
structure Inv (nt:Nat) (w:World) (I:Nat→Nat→Prop) (μ:Mu) (H:Heap) (e:Env) (a:Act):Prop where
 hr:HR w I μ (look H)
 dom:∀ id,H.length≤id→μ id=none
 env:ER w I μ e a.tmps
 size:nt≤a.tmps.size
 defers:a.defers=[]
def exitOk:TX→Exit→Prop
 | .nrm,.normal=>True
 | .ext id,.exit id'=>id=id'
 | .ret,.ret=>True
 | _,_=>False
def Post (nt m:Nat) (w:World) (I:Nat→Nat→Prop) (μ:Mu) (H:Heap) (x:TX) (e':Env) (H':Heap) (ex:Exit) (a':Act) (w':World):Prop :=
 exitOk x ex∧∃ I' μ',StpM m w I μ (look H) w' I' μ' (look H')∧Inv nt w' I' μ' H' e' a'
section
variable {P:Program} {S:Sys}
theorem wanted_ok {ops:Array Oper} {o:Oper} {j t:Nat} {want:Bool} (hg:o.guard=some (j,want)) (hd:(ops[j]?).bind (·.dst)=some t) {w:World} {I:Nat→Nat→Prop} {μ:Mu} {e:Env} {a:Act} (he:ER w I μ e a.tmps) :
  (get e t=.bool want→Region.wanted o (yielded ops a.tmps)=true)∧(get e t ≠ .bool want→((∃ b,get e t=.bool b)∨get e t=.tup [])→Region.wanted o (yielded ops a.tmps)=false):=by
 unfold Region.wanted
 rw [hg]
 have hv:=he t
 simp only
 unfold yielded
 rw [hd]
 simp only [Option.bind_some]
 have isb:∀ b,a.tmps.getD t undef=.bool b→a.tmps[t]?=some (.bool b):=fun b hq=>by
  rw [Array.getD_eq_getD_getElem?] at hq
  cases hx:a.tmps[t]? with
  | none=>rw [hx] at hq;cases hq
  | some u=>rw [hx] at hq;simp at hq;rw [hq]
 refine ⟨fun h=>?_,fun h1 h2=>?_⟩
 ·rw [h] at hv
  generalize hq:a.tmps.getD t undef=gv at hv
  cases hv
  rw [isb _ hq]
  simp
 ·rcases h2 with ⟨b,hb⟩ | ht
  ·rw [hb] at hv h1
   generalize hq:a.tmps.getD t undef=gv at hv
   cases hv
   rw [isb _ hq]
   simp only [beq_eq_false_iff_ne,ne_eq,Option.some.injEq]
   exact fun hh=>h1 (by rw [hh])
  ·rw [ht] at hv
   generalize hq:a.tmps.getD t undef=gv at hv
   cases hv with
   | tup _ l cs hn hh =>
    have hcs:cs=#[]:=by simpa using hn.symm
    subst hcs
    cases hx:a.tmps[t]? with
    | none=>rfl
    | some u =>
     rw [Array.getD_eq_getD_getElem?,hx] at hq
     simp at hq
     subst hq
     rfl
theorem ER.reads {w:World} {I:Nat→Nat→Prop} {μ:Mu} {e e':Env} {tmps:Array Value} (h:ER w I μ e tmps) (hg:∀ i,get e' i=get e i):ER w I μ e' tmps:=fun t=>by rw [hg t];exact h t
theorem argEnv_get:∀ (vs:List TV) (k t:Nat),get (argEnv k vs) t=if k≤t then vs.getD (t - k) .undef else .undef
 | [],k,t=>by simp [argEnv,get]
 | v::vs,k,t=>by
  simp only [argEnv,get]
  by_cases h:t=k
  ·subst h;simp
  ·rw [if_neg h,argEnv_get vs (k+1) t]
   by_cases h2:k≤t
   ·rw [if_pos (by omega),if_pos h2,show t - k=(t - (k+1))+1 by omega,List.getD_cons_succ]
   ·rw [if_neg (by omega),if_neg h2]
theorem enter_env {w:World} {I:Nat→Nat→Prop} {μ:Mu} {ts:List TV} {vs:Array Value} (h:VRL w I μ ts vs.toList) (n:Nat):ER w I μ (argEnv 0 ts) (vs++Array.replicate (n - vs.size) undef):=by
 intro t
 rw [argEnv_get]
 simp only [Nat.zero_le,if_true,Nat.sub_zero]
 by_cases ht:t < ts.length
 ·have hl:ts.length=vs.size:=by simpa using h.1
  have hv:t < vs.size:=by omega
  have h1:ts[t]?=some ts[t]:=List.getElem?_eq_getElem ht
  have h2:=h.2 t ts[t] vs[t] h1 (by simp [hv])
  have e1:ts.getD t .undef=ts[t]:=by simp [List.getD_eq_getElem?_getD,h1]
  have e2:(vs++Array.replicate (n - vs.size) undef).getD t undef=vs[t]:=by
   rw [Array.getD_eq_getD_getElem?,Array.getElem?_append_left hv];simp [hv]
  rw [e1,e2];exact h2
 ·have e1:ts.getD t .undef=.undef:=by simp [List.getD_eq_getElem?_getD,List.getElem?_eq_none (Nat.le_of_not_lt ht)]
  rw [e1];exact .undef _ _
def resv (tmps:Array Value):ResultVar→Sem Value
 | .tmp t=>pure (tmps.getD t undef)
 | .cell a t=>do loadVar t (← asAddr (tmps.getD a undef))
theorem results_eq (fn:Func) (tmps:Array Value):Go.results fn tmps=(do let vs ← fn.results.mapM (resv tmps);pure (if h:vs.size=1 then vs[0] else .tuple vs)):=by
 unfold Go.results
 congr 2
theorem results_ok {w:World} {I:Nat→Nat→Prop} {μ:Mu} {H:Heap} {e:Env} {tmps:Array Value} (hr:HR w I μ (look H)) (he:ER w I μ e tmps) {fn:Func} {rs:List TRes} (ht:TrR P fn.results.toList rs) {v:TV} (h:results e H rs=some v) :
  ∃ vv,(Go.results fn tmps).run P w=.ok vv w∧VR w I μ v vv:=by
 have one:∀ {rv:List ResultVar} {rs:List TRes},TrR P rv rs→∀ {vs:List TV},allSome (rs.map (resOf e H))=some vs→∃ us:List Value,
   (rv.mapM (resv tmps)).run P w=.ok us w∧VRL w I μ vs us:=by
  intro rv rs hrr
  induction hrr with
  | nil=>intro vs h;simp only [List.map_nil,allSome,Option.some.injEq] at h;subst h;exact ⟨[],by simp,VRL.nil⟩
  | @tmp t rv rs hs ih =>
   intro vs h
   simp only [List.map_cons,resOf,allSome,Option.map_eq_some_iff] at h
   obtain ⟨vs',h1,rfl⟩:=h
   obtain ⟨us,k1,k2⟩:=ih h1
   exact ⟨_::us,by simp only [List.mapM_cons,resv,Sem.run_bind,Sem.run_pure,Result.andThen_ok,k1],VRL.cons (he t) k2⟩
  | @cell a t n rv rs hag hs ih =>
   intro vs h
   simp only [List.map_cons] at h
   cases hc:resOf e H (.cell a n) with
   | none=>rw [hc] at h;cases h
   | some tv =>
    rw [hc] at h
    simp only [allSome,Option.map_eq_some_iff] at h
    obtain ⟨vs',h1,rfl⟩:=h
    obtain ⟨us,k1,k2⟩:=ih h1
    simp only [resOf] at hc
    cases hca:cellsAt H (get e a) with
    | none=>rw [hca] at hc;cases hc
    | some cs =>
     rw [hca] at hc
     obtain ⟨A,hA,hok⟩:=cellsAt_ok hr (he a) hca
     obtain ⟨u,g1,g2⟩:=run_loadVar (P:=P) hag hok hc
     refine ⟨u::us,?_,VRL.cons g2 k2⟩
     simp only [List.mapM_cons,resv,Sem.run_bind,hA,asAddr,Sem.run_pure,Result.andThen_ok,g1,k1]
 unfold results at h
 cases ha:allSome (rs.map (resOf e H)) with
 | none=>rw [ha] at h;cases h
 | some vs =>
  rw [ha] at h
  obtain ⟨us,k1,k2⟩:=one ht ha
  have hrun:∀ {u:Value},(if h:us.toArray.size=1 then us.toArray[0] else .tuple us.toArray)=u→(Go.results fn tmps).run P w=.ok u w:=by
   intro u hu
   rw [results_eq,Array.mapM_eq_mapM_toList]
   simp only [Sem.run_bind,Sem.run_map,k1,Result.andThen_ok,Sem.run_pure]
   rw [hu]
  have hlen:=k2.1
  split at h
  ·rename_i v1 heq
   simp only [Option.some.injEq] at h heq
   subst h
   subst heq
   cases us with
   | nil=>simp at hlen
   | cons u us' =>
    cases us' with
    | cons u' us''=>simp at hlen
    | nil=>exact ⟨u,hrun rfl,k2.2 0 _ _ rfl rfl⟩
  ·rename_i vs1 hne heq
   simp only [Option.some.injEq] at h heq
   subst h
   subst heq
   have hn1:us.length ≠ 1:=fun hh=>by
    rw [← hlen] at hh
    obtain ⟨x,hx⟩:=List.length_eq_one_iff.1 hh
    exact hne x (by rw [hx])
   refine ⟨.tuple us.toArray,hrun (by rw [dif_neg (by simpa using hn1)]),.tup _ _ _ (by simpa using hlen) (fun k t v h1 h2=>k2.2 k t v h1 (by simpa using h2))⟩
  ·cases h
def RecOk (P:Program) (S:Sys) (rec:TC→Env→Heap→Option Out):Prop :=
 ∀ (nt m:Nat) (c:Code) (tc:TC),TrC P nt c tc→pinsOk m tc=true→∀ (e:Env) (H:Heap) (x:TX) (e':Env) (H':Heap),rec tc e H=some (x,e',H')→∀ (w:World) (I:Nat→Nat→Prop) (μ:Mu) (a:Act),Inv nt w I μ H e a →
  ∀ Q:Exit→Act→World→Prop,(∀ ex a' w',Post nt m w I μ H x e' H' ex a' w'→Q ex a' w')→c.wp P Q a w
theorem Inv.put {nt:Nat} {w:World} {I:Nat→Nat→Prop} {μ:Mu} {H:Heap} {e:Env} {a:Act} (h:Inv nt w I μ H e a) {w':World} {I':Nat→Nat→Prop} {μ':Mu} {H':Heap} (hs:Stp w I μ (look H) w' I' μ' (look H')) (hr:HR w' I' μ' (look H'))
  (hdom:∀ id,H'.length≤id→μ' id=none) {d:Option Nat} (hd:∀ x,d=some x→x < nt) {t:TV} {v:Value} (hv:VR w' I' μ' t v):Inv nt w' I' μ' H' (put e d t) (a.put d v):=by
 refine ⟨hr,hdom,ER.put (hs.env h.hr h.env) (fun x hx=>Nat.lt_of_lt_of_le (hd x hx) h.size) hv,?_,?_⟩
 ·cases d with
  | none=>exact h.size
  | some x=>simpa [Act.put] using h.size
 ·cases d <;> exact h.defers
theorem callFn_ok {rec:TC→Env→Heap→Option Out} (hrec:RecOk P S rec) {f m:Nat} {tf:TFn} (hf:FnOk P f tf) (hpin:pinsOk m tf.code=true) {ts:List TV} {vs:Array Value} {H H':Heap} {v:TV} (h:callFn rec tf ts H=some (v,H')) {w:World} {I:Nat→Nat→Prop} {μ:Mu}
  (hr:HR w I μ (look H)) (hdom:∀ id,H.length≤id→μ id=none) (hvs:VRL w I μ ts vs.toList) :
  Calls P f vs w fun en w'=>∃ (vv:Value) (I':Nat→Nat→Prop) (μ':Mu),en=.returned vv∧StpM m w I μ (look H) w' I' μ' (look H')∧HR w' I' μ' (look H')∧(∀ id,H'.length≤id→μ' id=none)∧VR w' I' μ' v vv:=by
 obtain ⟨hent,fn,c,h1,h2,h3,h4⟩:=hf
 unfold callFn at h
 cases hc:rec tf.code (argEnv 0 ts) H with
 | none=>rw [hc] at h;cases h
 | some out =>
  obtain ⟨x,e',H1⟩:=out
  rw [hc] at h
  have hne:∀ id,x ≠ .ext id:=fun id hx=>by subst hx;cases h
  have hres:results e' H1 tf.res=some v∧H1=H':=by
   cases x with
   | ext id=>exact absurd rfl (hne id)
   | nrm=>simp only [Option.map_eq_some_iff,Prod.mk.injEq] at h;obtain ⟨r,g1,rfl,rfl⟩:=h;exact ⟨g1,rfl⟩
   | ret=>simp only [Option.map_eq_some_iff,Prod.mk.injEq] at h;obtain ⟨r,g1,rfl,rfl⟩:=h;exact ⟨g1,rfl⟩
  obtain ⟨hres,rfl⟩:=hres
  refine calls_of_wp h1 h2 (hrec fn.ntmps m c tf.code h3 hpin _ _ _ _ _ hc w I μ _ ⟨hr,hdom,enter_env hvs _,by simp;omega,rfl⟩ _ fun ex a' w' hp=>?_)
  obtain ⟨hex,I',μ',hs,hi⟩:=hp
  obtain ⟨vv,g1,g2⟩:=results_ok (P:=P) hi.hr hi.env h4 hres
  cases x with
  | ext id=>exact absurd rfl (hne id)
  | nrm =>
   cases ex <;> try exact hex.elim
   exact ⟨hi.defers,vv,g1,vv,I',μ',rfl,hs,hi.hr,hi.dom,g2⟩
  | ret =>
   cases ex <;> try exact hex.elim
   exact ⟨hi.defers,vv,g1,vv,I',μ',rfl,hs,hi.hr,hi.dom,g2⟩
theorem op_inline {rec:TC→Env→Heap→Option Out} (hrec:RecOk P S rec) {o:Oper} {a:Act} {f:Nat} {tf:TFn} (hf:FnOk P f tf∧∀ m,pinsOk m tf.code=true) {ts:List TV} {vs:Array Value} {H H':Heap} {v:TV} (h:callFn rec tf ts H=some (v,H')) {w:World} {I:Nat→Nat→Prop} {μ:Mu}
  (hr:HR w I μ (look H)) (hdom:∀ id,H.length≤id→μ id=none) (hvs:VRL w I μ ts vs.toList) (hrun:(execOp a.eval o).run P w=.ok (.enter f vs) w):MOk P o a w I μ H v H':=by
 intro K Q hK
 unfold Oper.wp
 rw [hrun]
 simp only [Oper.upon]
 refine (callFn_ok hrec hf.1 (hf.2 H.length) h hr hdom hvs).mono fun en w' ⟨vv,I',μ',he,h1,h2,h3,h4⟩=>?_
 subst he
 exact hK vv w' I' μ' (h1.full hdom) h2 h3 h4
theorem runOp_ok {rec:TC→Env→Heap→Option Out} (hS:SysOk P S) (hrec:RecOk P S rec) {o:Oper} {a:Act} {w:World} {I:Nat→Nat→Prop} {μ:Mu} {e:Env} {H H':Heap} {v:TV} {op:Op} (ho:o.op=op) {top:TOp} (ht:TrOp P op top)
  (hr:HR w I μ (look H)) (he:ER w I μ e a.tmps) (hdom:∀ id,H.length≤id→μ id=none) (h:runOp rec S e H top=some (v,H')):MOk P o a w I μ H v H':=by
 have hA:∀ {N:List Blk},opA S e H H.length top=some (v,N)→H++N=H'→MOk P o a w I μ H v H':=fun hN hH=>by
  subst hH
  exact (opA_ok hS.rule hS.ovl ho ht hr he (fun id h1 _=>hdom id h1) hN).mok hdom
 have hmap:(opA S e H H.length top).map (fun p=>(p.1,H++p.2))=some (v,H')→MOk P o a w I μ H v H':=fun hh=>by
  simp only [Option.map_eq_some_iff,Prod.mk.injEq] at hh
  obtain ⟨⟨v',N⟩,h1,h2,h3⟩:=hh
  dsimp only at h2 h3
  subst h2
  exact hA h1 h3
 cases ht with
 | store hi hx hy =>
  simp only [runOp,Option.map_eq_some_iff,Prod.mk.injEq] at h
  obtain ⟨H1,h1,rfl,rfl⟩:=h
  exact op_store ho hi hx hy hr he hdom h1
 | append ht hu hdu hi hz hzs hpos hs hx =>
  simp only [runOp] at h
  split at h
  ·rename_i id off len hh
   exact op_appendM ho ht hu hdu hi hz hzs hs hx hr he hdom h
  ·rename_i hh
   rw [← hh] at h
   exact op_appendB ho ht hu hdu hi hz hzs hs hx hr he hdom h
  ·rename_i id n T hh
   rw [← hh] at h
   exact op_appendB ho ht hu hdu hi hz hzs hs hx hr he hdom h
  ·exact hmap h
 | ustr hp hc hx hy =>
  simp only [runOp] at h
  exact op_ustr ho hp hc hx hy hr he hdom h
 | @call f args ts args' hx =>
  simp only [runOp] at h
  cases hfn:S.fn f with
  | none=>rw [hfn] at h;exact hmap h
  | some tf =>
   rw [hfn] at h
   have hf:=hS.fn f tf hfn
   refine op_inline hrec hf h hr hdom (vs:=args.map a.eval) (by simpa using hx.ok he) ?_
   simp [execOp,ho,resolve,Act.eval,Deferred.ofValue,invoke,run_callFunc hf.1.1]
 | @callv f f' args ts args' hf hx =>
  simp only [runOp] at h
  have hfv:=hf.ok he
  cases hct:ev e f' with
  | fn g x y =>
   rw [hct] at h hfv
   simp only at h
   cases hfn:S.fn g with
   | none =>
    rw [hfn] at h
    refine hmap ?_
    simp only [opA,hct]
    exact h
   | some tf =>
    rw [hfn] at h
    have hfo:=hS.fn g tf hfn
    generalize hcv:a.eval f=cv at hfv
    cases hfv with
    | fn _ _ _ _ xs ys hx1 hy1 hx2 hy2 =>
     have h1:VRL w I μ x xs.toList:=⟨by simpa using hx1,fun k t v a1 a2=>hx2 k t v a1 (by simpa [← Array.getElem?_toList] using a2)⟩
     have h2:VRL w I μ y ys.toList:=⟨by simpa using hy1,fun k t v a1 a2=>hy2 k t v a1 (by simpa [← Array.getElem?_toList] using a2)⟩
     have h3:VRL w I μ (args'.map (ev e)) (args.map a.eval).toList:=by simpa using hx.ok he
     refine op_inline hrec hfo h hr hdom (vs:=xs++args.map a.eval++ys) (by simpa using (h1.append h3).append h2) ?_
     simp [execOp,ho,resolve,hcv,Deferred.ofValue,invoke,run_callFunc hfo.1.1]
  | _=>rw [hct] at h;cases h
 | copy ht hi hx hy =>
  simp only [runOp] at h
  exact op_copyM ho ht hi hx hy hr he hdom h
 | recut ht hin hx hlo hhi =>
  simp only [runOp] at h
  split at h
  ·rename_i r hA0
   exact mok_anch ((opA_ok hS.rule hS.ovl ho (.slice ht hin hx hlo hhi (mx:=none) (mx':=none) .nil) hr he (fun id h1 _=>hdom id h1) hA0).mok hdom) h
  ·cases h
 | @callM f tag ids args ts args' hx =>
  simp only [runOp] at h
  exact op_callM hS.mrule hr hdom (vs:=args.map a.eval) (by simpa using hx.ok he) h fun hent=>by simp [execOp,ho,resolve,Act.eval,Deferred.ofValue,invoke,run_callFunc hent]
 | @callvM f f' tag ids args ts args' hf hx =>
  simp only [runOp] at h
  have hfv:=hf.ok he
  cases hct:ev e f' with
  | fn g x y =>
   rw [hct] at h hfv
   simp only at h
   generalize hcv:a.eval f=cv at hfv
   cases hfv with
   | fn _ _ _ _ xs ys hx1 hy1 hx2 hy2 =>
    have h1:VRL w I μ x xs.toList:=⟨by simpa using hx1,fun k t v a1 a2=>hx2 k t v a1 (by simpa [← Array.getElem?_toList] using a2)⟩
    have h2:VRL w I μ y ys.toList:=⟨by simpa using hy1,fun k t v a1 a2=>hy2 k t v a1 (by simpa [← Array.getElem?_toList] using a2)⟩
    have h3:VRL w I μ (args'.map (ev e)) (args.map a.eval).toList:=by simpa using hx.ok he
    exact op_callM hS.mrule hr hdom (vs:=xs++args.map a.eval++ys) (by simpa using (h1.append h3).append h2) h fun hent=>by simp [execOp,ho,resolve,hcv,Deferred.ofValue,invoke,run_callFunc hent]
  | _=>rw [hct] at h;cases h
 | _=>exact hmap h
theorem runOps_ok {rec:TC→Env→Heap→Option Out} (hS:SysOk P S) (hrec:RecOk P S rec) {nt:Nat} {ops:Array Oper} {Q:Exit→Act→World→Prop}:∀ {os:List Oper} {tos:List TO},TrL P nt ops os tos→∀ {e:Env} {H:Heap} {e':Env} {H':Heap},runOps rec S tos e H=some (e',H') →
  ∀ {w:World} {I:Nat→Nat→Prop} {μ:Mu} {a:Act},Inv nt w I μ H e a→(∀ a' w',(∃ I' μ',Stp w I μ (look H) w' I' μ' (look H')∧Inv nt w' I' μ' H' e' a')→Q .normal a' w')→wpList P ops Q os a w:=by
 intro os tos hts
 induction hts with
 | nil =>
  intro e H e' H' h w I μ a hi hQ
  simp only [runOps,Option.some.injEq,Prod.mk.injEq] at h
  obtain ⟨rfl,rfl⟩:=h
  exact hQ a w ⟨I,μ,Stp.refl _ _ _ _,hi⟩
 | @frz t ids os tos hs ih =>
  intro e H e' H' h w I μ a hi hQ
  simp only [runOps] at h
  obtain ⟨v,H1,r1,r2⟩:=thenOps_inv h
  simp only [runOp,Option.some.injEq,Prod.mk.injEq,ev] at r1
  obtain ⟨rfl,rfl⟩:=r1
  obtain ⟨I1,s1,s2,s3⟩:=frz_ok (ids:=ids) hi.hr (hi.env t)
  refine ih r2 (I:=I1) (μ:=μ) ⟨s2,fun id hid=>hi.dom id (by rw [killB_length] at hid;exact hid),fun y=>?_,hi.size,hi.defers⟩ fun a' w' ⟨I',μ',g1,g2⟩=>hQ a' w' ⟨I',μ',s1.trans g1,g2⟩
  simp only [put,get]
  by_cases hy:y=t
  ·subst hy;rw [if_pos rfl];exact s3
  ·rw [if_neg hy];exact (hi.env y).wide s1.up
 | @cons o to os tos hto hs ih =>
  intro e H e' H' h w I μ a hi hQ
  obtain ⟨hop,hd,hlt,hg⟩:=hto
  -- the operation is carried out
  have yes:∀ e1,(∀ i,get e1 i=get e i)→Region.wanted o (yielded ops a.tmps)=true→(thenOps (runOp rec S e1 H to.op) fun v H'=>runOps rec S tos (put e1 to.dst v) H')=some (e',H')→wpList P ops Q (o::os) a w:=by
   intro e1 hget hwd hrun
   obtain ⟨v,H1,r1,r2⟩:=thenOps_inv hrun
   have hi1:Inv nt w I μ H e1 a:=⟨hi.hr,hi.dom,hi.env.reads hget,hi.size,hi.defers⟩
   unfold wpList
   rw [if_pos hwd]
   left
   refine runOp_ok hS hrec rfl hop hi1.hr hi1.env hi1.dom r1 _ _ fun vv w1 I1 μ1 h1 h2 h3 h4=>?_
   refine ih r2 (I:=I1) (μ:=μ1) ?_ fun a' w' ⟨I',μ',g1,g2⟩=>hQ a' w' ⟨I',μ',h1.trans g1,g2⟩
   rw [hd]
   exact hi1.put h1 h2 h3 hlt h4
  -- it is left out
  have no:∀ e1,(∀ i,get e1 i=get e i)→Region.wanted o (yielded ops a.tmps)=false→runOps rec S tos (put e1 to.dst (.tup [])) H=some (e',H')→wpList P ops Q (o::os) a w:=by
   intro e1 hget hwd hrun
   have hi1:Inv nt w I μ H e1 a:=⟨hi.hr,hi.dom,hi.env.reads hget,hi.size,hi.defers⟩
   unfold wpList
   rw [if_neg (by rw [hwd];simp)]
   refine ih hrun (I:=I) (μ:=μ) ?_ hQ
   have:=hi1.put (Stp.refl w I μ (look H)) hi1.hr hi1.dom (d:=o.dst) hlt (t:=.tup []) (v:=undef) (.tup _ _ _ rfl (fun k t v hk=>by simp at hk))
   rw [← hd] at this
   rw [← hd]
   exact this
  obtain ⟨dst,guard,top⟩:=to
  cases guard with
  | none =>
   simp only [runOps] at h
   have hgn:o.guard=none:=by
    generalize hog:o.guard=og at hg
    cases hg
    rfl
   exact yes e (fun _=>rfl) (by unfold Region.wanted;rw [hgn]) h
  | some tw =>
   obtain ⟨t,want⟩:=tw
   simp only [runOps] at h
   obtain ⟨e1,hget,hcase⟩:=guardOps_inv h
   have hgs:∃ j,o.guard=some (j,want)∧(ops[j]?).bind (·.dst)=some t:=by
    generalize hog:o.guard=og at hg
    cases hg with
    | some hh=>exact ⟨_,rfl,hh⟩
   obtain ⟨j,g1,g2⟩:=hgs
   obtain ⟨w1,w2⟩:=wanted_ok g1 g2 hi.env
   rcases hcase with ⟨c1,c2⟩ | ⟨c1,c2,c3⟩
   ·exact yes e1 hget (w1 c1) c2
   ·exact no e1 hget (w2 c1 c2) c3
end
end Go.Proofs.TM
