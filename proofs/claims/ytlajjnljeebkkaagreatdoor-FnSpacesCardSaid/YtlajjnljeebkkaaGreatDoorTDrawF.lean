import Derived.Test.YtlajjnljeebkkaaGreatDoorTDraw
namespace Go.Proofs.TM
open Go
section
variable {P:Program} {S:Sys}
structure DrawFactsF (ops:Array Oper) (tos:List TO) (n:Nat) (lates:List (Option (List Nat))) (ancs:List (List Nat)):Prop where
 len:n≤ops.size
 alen:ancs.length=ops.size
 llen:lates.length=n
 seq:Region.seqB .any ops (ops.size - n) n ((Array.range ops.size).map fun j=>decide (j < n))=true
 edge:∀ (i:Nat) (o:Oper),ops[i]?=some o→∀ j ∈ edges o,j < i
 anc:∀ (i:Nat) (o:Oper),ops[i]?=some o→∀ b ∈ ancs.getD i [],b ∈ edges o∨∃ j ∈ edges o,b ∈ ancs.getD j []
 head:∀ (i:Nat) (o:Oper) (to:TO) (j:Nat) (tj:TO) (d:Nat),i < n→ops[i]?=some o→tos[i]?=some to→j < n→tos[j]?=some tj→tj.dst=some d→(d ∈ toTmps to→j ≠ i∧j ∈ edges o)∧(to.dst=some d→j=i)
 chain:∀ i,i < n→∀ j,j < i→lates.getD j none ≠ none→lates.getD i none=none→j ∈ ancs.getD i []
 spine:∀ i lt,i < n→lates.getD i none=some lt→∀ j,j < i→j ∈ ancs.getD i []∨(lates.getD j none=none∧∃ tj x,tos[j]?=some tj∧tj.dst=some x∧x ∈ lt)
 tail:∀ i,n≤i→i < ops.size→∀ j,j < n→j ∈ ancs.getD i []
theorem DrawFactsF.of {nt n:Nat} {ops:Array Oper} {tos:List TO} {lates:List (Option (List Nat))} {ancs:List (List Nat)} (hts:TrOs P nt ops ops.toList tos) (h:drawFOk ops (tos.map skO) n lates ancs=true):DrawFactsF ops tos n lates ancs:=by
 unfold drawFOk at h
 simp only [Bool.and_eq_true,decide_eq_true_eq,List.all_eq_true,List.mem_range] at h
 obtain ⟨⟨⟨⟨h1,h2⟩,h3⟩,h4⟩,h5⟩:=h
 have hlen:tos.length=ops.size:=by simpa using hts.length
 have at_:∀ i,i < ops.size→∃ o to,ops[i]?=some o∧tos[i]?=some to∧ancs[i]?=some (ancs.getD i []):=fun i hi =>
  ⟨_,_,Array.getElem?_eq_getElem hi,List.getElem?_eq_getElem (by omega),by simp [List.getD_eq_getElem?_getD,show i < ancs.length by omega]⟩
 have key:∀ i,i < ops.size→∃ o to,ops[i]?=some o∧tos[i]?=some to∧((((edges o).all fun j=>decide (j < i))=true∧((ancs.getD i []).all fun b=>(edges o).contains b || (edges o).any fun j=>(ancs.getD j []).contains b)=true) ∧
   (if i < n then
    (List.range n).all (fun j=>match ((tos.map skO)[j]?).bind (·.1) with
     | some dj=>(!(toTmps to).contains dj || (j != i && (edges o).contains j)) && (j == i || to.dst != some dj)
     | none=>true) &&
    (match lates.getD i none with
    | none=>(List.range i).all fun j=>(lates.getD j none).isNone || (ancs.getD i []).contains j
    | some lt=>(List.range i).all fun j=>(ancs.getD i []).contains j || ((lates.getD j none).isNone && (match ((tos.map skO)[j]?).bind (·.1) with | some x=>lt.contains x | none=>false)))
   else (List.range n).all fun j=>(ancs.getD i []).contains j)=true):=fun i hi=>by
  have h:=h4 i hi
  obtain ⟨o,to,q1,q2,q3⟩:=at_ i hi
  refine ⟨o,to,q1,q2,?_⟩
  rw [q1,q3] at h
  have e:(tos.map skO)[i]?=some (skO to):=by rw [List.getElem?_map,q2];rfl
  rw [e] at h
  simp only [skO,Bool.and_eq_true] at h
  exact h
 refine ⟨h1,h2,h3,h5,fun i o ho j hj=>?_,fun i o ho b hb=>?_,fun i o to j tj d hi ho hto hj htj hd=>?_,fun i hi j hj hs hn=>?_,fun i lt hi hl j hj=>?_,fun i hn hi j hj=>?_⟩
 ·obtain ⟨o',to,q1,q2,⟨⟨q,_⟩,_⟩⟩:=key i (Array.getElem?_eq_some_iff.1 ho).1
  rw [ho] at q1;cases q1
  simp only [List.all_eq_true,decide_eq_true_eq] at q
  exact q j hj
 ·obtain ⟨o',to,q1,q2,⟨⟨_,q⟩,_⟩⟩:=key i (Array.getElem?_eq_some_iff.1 ho).1
  rw [ho] at q1;cases q1
  simp only [List.all_eq_true,Bool.or_eq_true,List.any_eq_true,List.contains_iff_mem] at q
  exact q b hb
 ·obtain ⟨o',to',q1,q2,⟨_,q⟩⟩:=key i (by omega)
  rw [ho] at q1;cases q1
  rw [hto] at q2;cases q2
  rw [if_pos hi,Bool.and_eq_true] at q
  have:=q.1
  simp only [List.all_eq_true,List.mem_range] at this
  have:=this j hj
  rw [List.getElem?_map,htj] at this
  simp only [Option.map_some,Option.bind_some,skO,hd,Bool.and_eq_true,Bool.or_eq_true,Bool.not_eq_true',bne_iff_ne,ne_eq,beq_iff_eq,List.contains_iff_mem] at this
  refine ⟨fun hm=>?_,fun hdd=>?_⟩
  ·rcases this.1 with g | g
   ·have:(toTmps to).contains d=true:=by simpa using hm
    rw [this] at g;cases g
   ·exact g
  ·rcases this.2 with g | g
   ·exact g
   ·exact absurd hdd g
 ·obtain ⟨o',to',q1,q2,⟨_,q⟩⟩:=key i (by omega)
  rw [if_pos hi,Bool.and_eq_true,hn] at q
  have:=q.2
  simp only [List.all_eq_true,List.mem_range,Bool.or_eq_true,Option.isNone_iff_eq_none,List.contains_iff_mem] at this
  exact (this j hj).resolve_left hs
 ·obtain ⟨o',to',q1,q2,⟨_,q⟩⟩:=key i (by omega)
  rw [if_pos hi,Bool.and_eq_true,hl] at q
  have:=q.2
  simp only [List.all_eq_true,List.mem_range,Bool.or_eq_true,Bool.and_eq_true,Option.isNone_iff_eq_none,List.contains_iff_mem] at this
  refine (this j hj).imp id fun g=>⟨g.1,?_⟩
  obtain ⟨oj,tj,p1,p2,p3⟩:=at_ j (by omega)
  have g2:=g.2
  rw [List.getElem?_map,p2] at g2
  simp only [Option.map_some,Option.bind_some,skO] at g2
  cases hx:tj.dst with
  | none=>rw [hx] at g2;cases g2
  | some x=>rw [hx] at g2;exact ⟨tj,x,p2,hx,by simpa using g2⟩
 ·obtain ⟨o',to',q1,q2,⟨_,q⟩⟩:=key i hi
  rw [if_neg (by omega)] at q
  simp only [List.all_eq_true,List.mem_range,List.contains_iff_mem] at q
  exact q j hj
def dvsF (l:List (Option (List Nat)×TO)) (R:List TV):List (Option Nat×TV):=(l.zip R).map fun p=>(p.1.2.dst,p.2)
def FRun (rec:TC→Env→Heap→Option Out) (S:Sys) (known:Nat→TOp→Prop) (late:Option (List Nat)) (to:TO) (ei:Env) (v:TV) (Hi Hi':Heap):Prop :=
 match late with
 | none=>to.guard=none∧(∃ x,to.dst=some x)∧Hi'=Hi∧opA S (keepEnv (topTmps to.op) ei) Hi Hi.length to.op=some (v,[])
 | some lt=>(guardYes to.guard ei∧runOp rec S (keepEnv (topTmps to.op) ei) Hi to.op=some (v,Hi')∧∀ x ∈ lt,∃ o e1,known x o∧(∀ t,get e1 t=if to.dst=some t then v else get ei t)∧opA S (keepEnv (topTmps o) e1) Hi' Hi'.length o=some (get e1 x,[]))∨(guardNo to.guard ei∧v=.tup []∧Hi'=Hi)
theorem lk_mem:∀ {fl:List (Nat×TOp)} {x:Nat} {o:TOp},lk fl x=some o→(x,o) ∈ fl
 | [],_,_,h=>by cases h
 | (y,o')::fl,x,o,h=>by
  simp only [lk] at h
  split at h
  ·rename_i hx;cases h;subst hx;exact List.mem_cons_self ..
  ·exact List.mem_cons_of_mem _ (lk_mem h)
theorem lateF_get {fl:List (Nat×TOp)} {e:Env} {H:Heap}:∀ {lt:List Nat},lateF S fl e H lt→∀ x ∈ lt,∃ o,(x,o) ∈ fl∧opA S (keepEnv (topTmps o) e) H H.length o=some (get e x,[])
 | [],_,x,hx=>by cases hx
 | y::l,h,x,hx=>by
  obtain ⟨h1,h2⟩:=h
  rcases List.mem_cons.1 hx with rfl | hx
  ·cases hl:lk fl x with
   | none=>rw [hl] at h1;exact h1.elim
   | some o=>rw [hl] at h1;exact ⟨o,lk_mem hl,h1⟩
  ·exact lateF_get h2 x hx
theorem FRun.imp {rec:TC→Env→Heap→Option Out} {k k':Nat→TOp→Prop} {late:Option (List Nat)} {to:TO} {ei ei':Env} {v:TV} {Hi Hi':Heap} (h:FRun rec S k late to ei v Hi Hi') (hk:∀ x o,k x o→k' x o) (hg:∀ t,get ei' t=get ei t):FRun rec S k' late to ei' v Hi Hi':=by
 have hke:keepEnv (topTmps to.op) ei'=keepEnv (topTmps to.op) ei:=by unfold keepEnv;simp only [hg]
 unfold FRun at *
 rw [hke]
 cases late with
 | none=>exact h
 | some lt =>
  simp only at h ⊢
  rcases h with ⟨h1,h2,h3⟩ | ⟨h1,h2⟩
  ·refine .inl ⟨?_,h2,fun x hx=>?_⟩
   ·unfold guardYes at *
    cases hgu:to.guard with
    | none=>trivial
    | some p=>rw [hgu] at h1;simp only [hg];exact h1
   ·obtain ⟨o,e1,g1,g2,g3⟩:=h3 x hx
    exact ⟨o,e1,hk _ _ g1,fun t=>by rw [g2,hg],g3⟩
  ·refine .inr ⟨?_,h2⟩
   unfold guardNo at *
   cases hgu:to.guard with
   | none=>rw [hgu] at h1;exact h1
   | some p=>rw [hgu] at h1;simp only [hg];exact h1
theorem valS_gen (D:List (Option Nat×TV)):∀ (t k m:Nat) (x:TV),valS (fun _=>true) t k D x=valS (fun _=>true) t m D x:=by
 induction D with
 | nil=>intro t k m x;rfl
 | cons p D ih=>intro t k m x;obtain ⟨d,u⟩:=p;simp only [valS];exact ih t _ _ _
theorem runF_spec {rec:TC→Env→Heap→Option Out}:∀ {l:List (Option (List Nat)×TO)} {fl:List (Nat×TOp)} {e:Env} {H:Heap} {e':Env} {H':Heap},runF rec S l fl e H=some (e',H') →
  ∃ (R:List TV) (G:List Heap),R.length=l.length∧G[0]?=some H∧G[l.length]?=some H'∧(∀ t,get e' t=valS (fun _=>true) t 0 (dvsF l R) (get e t)) ∧
   ∀ (i:Nat) (late:Option (List Nat)) (to:TO),l[i]?=some (late,to)→∃ v ei Hi Hi',R[i]?=some v∧G[i]?=some Hi∧G[i+1]?=some Hi'∧(∀ t,get ei t=valS (fun _=>true) t 0 ((dvsF l R).take i) (get e t)) ∧
    FRun rec S (fun x o=>(x,o) ∈ fl∨∃ j,j < i∧l[j]?=some (none,⟨some x,none,o⟩)) late to ei v Hi Hi'
 | [],fl,e,H,e',H',h=>by
  simp only [runF,Option.some.injEq,Prod.mk.injEq] at h
  obtain ⟨rfl,rfl⟩:=h
  exact ⟨[],[H],rfl,rfl,rfl,fun t=>rfl,fun i late to hi=>by simp at hi⟩
 | (late,to)::l,fl,e,H,e',H',h=>by
  have rest:∀ (e1:Env) (v:TV) (H1:Heap) (fl1:List (Nat×TOp)),(∀ i,get e1 i=get e i)→FRun rec S (fun x o=>(x,o) ∈ fl) late to e1 v H H1→(∀ x o,(x,o) ∈ fl1→(x,o) ∈ fl∨(late=none∧to=⟨some x,none,o⟩))→runF rec S l fl1 (put e1 to.dst v) H1=some (e',H') →
    ∃ (R:List TV) (G:List Heap),R.length=((late,to)::l).length∧G[0]?=some H∧G[((late,to)::l).length]?=some H'∧(∀ t,get e' t=valS (fun _=>true) t 0 (dvsF ((late,to)::l) R) (get e t)) ∧
     ∀ (i:Nat) (late':Option (List Nat)) (to':TO),((late,to)::l)[i]?=some (late',to')→∃ v ei Hi Hi',R[i]?=some v∧G[i]?=some Hi∧G[i+1]?=some Hi'∧(∀ t,get ei t=valS (fun _=>true) t 0 ((dvsF ((late,to)::l) R).take i) (get e t)) ∧
      FRun rec S (fun x o=>(x,o) ∈ fl∨∃ j,j < i∧((late,to)::l)[j]?=some (none,⟨some x,none,o⟩)) late' to' ei v Hi Hi':=by
   intro e1 v H1 fl1 hget hrun hfl hr
   obtain ⟨R,G,h1,h2,h3,h4,h5⟩:=runF_spec hr
   refine ⟨v::R,H::G,by simp [h1],rfl,by simpa using h3,fun t=>?_,fun i late' to' hi=>?_⟩
   ·rw [h4 t,get_put,hget]
    simp only [dvsF,List.zip_cons_cons,List.map_cons,valS,true_and]
    exact valS_gen _ _ _ _ _
   ·cases i with
    | zero =>
     simp only [List.getElem?_cons_zero,Option.some.injEq,Prod.mk.injEq] at hi
     obtain ⟨rfl,rfl⟩:=hi
     exact ⟨v,e1,H,H1,rfl,rfl,by simpa using h2,fun t=>by simp [valS,hget],hrun.imp (fun x o h=>.inl h) fun _=>rfl⟩
    | succ i =>
     obtain ⟨v',ei,Hi,Hi',k1,k2,k3,k4,k5⟩:=h5 i late' to' (by simpa using hi)
     refine ⟨v',ei,Hi,Hi',by simpa using k1,by simpa using k2,by simpa using k3,fun t=>?_,k5.imp (fun x o h=>?_) fun _=>rfl⟩
     ·rw [k4 t,get_put,hget]
      simp only [dvsF,List.zip_cons_cons,List.map_cons,List.take_succ_cons,valS,true_and]
      exact valS_gen _ _ _ _ _
     ·rcases h with h | ⟨j,g1,g2⟩
      ·rcases hfl x o h with h | ⟨rfl,rfl⟩
       ·exact .inl h
       ·exact .inr ⟨0,by omega,rfl⟩
      ·exact .inr ⟨j+1,by omega,by simpa using g2⟩
  obtain ⟨d,g,o⟩:=to
  cases late with
  | none =>
   cases d with
   | none=>simp only [runF] at h;cases h
   | some x =>
    cases g with
    | some p=>simp only [runF] at h;cases h
    | none =>
     simp only [runF] at h
     obtain ⟨v,N,h1,h2⟩:=thenOps_inv h
     obtain ⟨rfl,h3⟩:=thenNil_inv h2
     refine rest e v H _ (fun _=>rfl) ⟨rfl,⟨x,rfl⟩,rfl,h1⟩ (fun y o' hm=>?_) h3
     rcases List.mem_cons.1 hm with hm | hm
     ·cases hm;exact .inr ⟨rfl,rfl⟩
     ·exact .inl hm
  | some lt =>
   cases g with
   | none =>
    simp only [runF] at h
    obtain ⟨v,H1,h1,h2⟩:=thenOps_inv h
    obtain ⟨h3,h4⟩:=lateGo_inv h2
    exact rest e v H1 fl (fun _=>rfl) (.inl ⟨trivial,h1,fun x hx=>let ⟨o',g1,g2⟩:=lateF_get h3 x hx;⟨o',_,g1,fun t=>get_put e d v t,g2⟩⟩) (fun x o' hm=>.inl hm) h4
   | some tw =>
    obtain ⟨t,w⟩:=tw
    simp only [runF] at h
    obtain ⟨e1,hget,hcase⟩:=guardOps_inv h
    rcases hcase with ⟨c1,c2⟩ | ⟨c1,c2,c3⟩
    ·obtain ⟨v,H1,h1,h2⟩:=thenOps_inv c2
     obtain ⟨h3,h4⟩:=lateGo_inv h2
     exact rest e1 v H1 fl hget (.inl ⟨by show get e1 t=_;rw [hget];exact c1,h1,fun x hx=>let ⟨o',g1,g2⟩:=lateF_get h3 x hx;⟨o',_,g1,fun t=>get_put e1 d v t,g2⟩⟩) (fun x o' hm=>.inl hm) h4
    ·exact rest e1 (.tup []) H fl hget (.inr ⟨⟨by rw [hget];exact c1,by rw [hget];exact c2⟩,rfl,rfl⟩) (fun x o' hm=>.inl hm) c3
theorem keepEnv_in {l:List Nat} {e:Env} (t:Nat):(get (keepEnv l e) t=get e t∧t ∈ l)∨get (keepEnv l e) t=.undef:=by
 unfold keepEnv
 induction l with
 | nil=>exact .inr rfl
 | cons k ks ih =>
  simp only [List.map_cons,get]
  by_cases hk:t=k
  ·subst hk;left;simp
  ·rw [if_neg hk]
   rcases ih with ⟨h1,h2⟩ | h1
   ·exact .inl ⟨h1,List.mem_cons_of_mem _ h2⟩
   ·exact .inr h1
theorem keepEnv_congr {l:List Nat} {e e':Env} (h:∀ t ∈ l,get e' t=get e t):keepEnv l e'=keepEnv l e:=by
 unfold keepEnv
 exact List.map_congr_left fun t ht=>by rw [h t ht]
theorem want_ok {ops:Array Oper} {o:Oper} {to:TO} {ei:Env} {w:World} {I:Nat→Nat→Prop} {μ:Mu} {a:Act} (hg:TrG ops o.guard to.guard) (henv:∀ t,t ∈ toTmps to→VR w I μ (get ei t) (a.tmps.getD t undef)) :
  (guardYes to.guard ei→Region.wanted o (yielded ops a.tmps)=true)∧(guardNo to.guard ei→Region.wanted o (yielded ops a.tmps)=false):=by
 cases hog:o.guard with
 | none =>
  rw [hog] at hg
  have htg:to.guard=none:=by
   generalize to.guard=tg at hg
   cases hg;rfl
  rw [htg]
  exact ⟨fun _=>by unfold Region.wanted;rw [hog],fun h=>h.elim⟩
 | some p =>
  obtain ⟨j,want⟩:=p
  rw [hog] at hg
  have htg:∃ t,to.guard=some (t,want)∧(ops[j]?).bind (·.dst)=some t:=by
   generalize to.guard=tg at hg
   cases hg with
   | some hh=>exact ⟨_,rfl,hh⟩
  obtain ⟨t,h1,h2⟩:=htg
  have ht:t ∈ toTmps to:=by unfold toTmps;rw [h1];simp
  have hE:ER w I μ (keepEnv [t] ei) a.tmps:=fun x=>by
   rcases keepEnv_in (l:=[t]) (e:=ei) x with ⟨g1,g2⟩ | g1
   ·rw [g1];exact henv x (by simp at g2;subst g2;exact ht)
   ·rw [g1];exact .undef _ _
  have hke:get (keepEnv [t] ei) t=get ei t:=by simp [keepEnv,get]
  obtain ⟨w1,w2⟩:=wanted_ok hog h2 hE
  rw [hke] at w1 w2
  rw [h1]
  exact ⟨w1,fun h=>w2 h.1 h.2⟩
theorem drawF_ok {rec:TC→Env→Heap→Option Out} (hS:SysOk P S) (hrec:RecOk P S rec) {nt id n:Nat} {ops0 ops:Array Oper} {tos:List TO} {lates:List (Option (List Nat))} {ancs:List (List Nat)}
  (hp:Reord P ops0 ops) (hm:P.follows .mixedOrders=true) (hts:TrOs P nt ops ops.toList tos) (hok:drawFOk ops (tos.map skO) n lates ancs=true) {tl:List TO} (htl:TrL P nt ops (ops.toList.drop n) tl)
  {e e1 e2:Env} {H H1 H2:Heap} (hrun:runF rec S ((lates.zip tos).take n) [] e H=some (e1,H1)) (hrun2:runOps rec S tl e1 H1=some (e2,H2))
  {w:World} {I:Nat→Nat→Prop} {μ:Mu} {a:Act} (hi:Inv nt w I μ H e a) {Q:Exit→Act→World→Prop} (hQ:∀ a' w',(∃ I' μ',Stp w I μ (look H) w' I' μ' (look H2)∧Inv nt w' I' μ' H2 e2 a')→Q .normal a' w'):(Code.region id ops0 true).wp P Q a w:=by
 have F:=DrawFactsF.of hts hok
 obtain ⟨R,G,r1,r2,r3,r4,r5⟩:=runF_spec hrun
 have hlen:tos.length=ops.size:=by simpa using hts.length
 have hn:=F.len
 have hll:((lates.zip tos).take n).length=n:=by have:=F.llen;simp;omega
 rw [hll] at r1 r3
 -- what the list holds
 have hl:∀ i,i < n→∃ o to v ei Hi Hi',ops[i]?=some o∧tos[i]?=some to∧TrO P nt ops o to∧R[i]?=some v∧G[i]?=some Hi∧G[i+1]?=some Hi'∧(∀ t,get ei t=valS (fun j=>decide (j < i)) t 0 (dvsF ((lates.zip tos).take n) R) (get e t)) ∧
   FRun rec S (fun x o=>∃ j,j < i∧lates.getD j none=none∧tos[j]?=some ⟨some x,none,o⟩) (lates.getD i none) to ei v Hi Hi':=fun i h=>by
  have hlt:lates[i]?=some (lates.getD i none):=by
   have:i < lates.length:=by rw [F.llen];exact h
   simp [List.getD_eq_getElem?_getD,this]
  have ht:tos[i]?=some tos[i]:=List.getElem?_eq_getElem (by omega)
  have ho:ops[i]?=some ops[i]:=Array.getElem?_eq_getElem (by omega)
  obtain ⟨v,ei,Hi,Hi',k1,k2,k3,k4,k5⟩:=r5 i (lates.getD i none) tos[i] (by rw [List.getElem?_take,if_pos h,List.getElem?_zip_eq_some];exact ⟨hlt,ht⟩)
  refine ⟨_,_,v,ei,Hi,Hi',ho,ht,hts.get (by simp) ht,k1,k2,k3,fun t=>by rw [k4,valS_take],k5.imp (fun x o hk=>?_) fun _=>rfl⟩
  rcases hk with hk | ⟨j,g1,g2⟩
  ·cases hk
  ·rw [List.getElem?_take,if_pos (by omega),List.getElem?_zip_eq_some] at g2
   exact ⟨j,g1,by simp [List.getD_eq_getElem?_getD,g2.1],g2.2⟩
 generalize hDD:dvsF ((lates.zip tos).take n) R=D at r4 hl
 have hD:∀ j d v,D[j]?=some (d,v)→j < n∧∃ to,tos[j]?=some to∧to.dst=d∧R[j]?=some v:=fun j d v h=>by
  subst hDD
  unfold dvsF at h
  rw [List.getElem?_map,Option.map_eq_some_iff] at h
  obtain ⟨⟨⟨la,to⟩,u⟩,h1,h2⟩:=h
  rw [List.getElem?_zip_eq_some] at h1
  simp only [Prod.mk.injEq] at h2
  obtain ⟨rfl,rfl⟩:=h2
  have hj:j < n:=by rw [← r1];exact (List.getElem?_eq_some_iff.1 h1.2).1
  have h3:=h1.1
  rw [List.getElem?_take,if_pos hj,List.getElem?_zip_eq_some] at h3
  exact ⟨hj,to,h3.2,rfl,h1.2⟩
 have hDi:∀ (j:Nat) (to:TO) (v:TV),j < n→tos[j]?=some to→R[j]?=some v→D[j]?=some (to.dst,v):=fun j to v hj h1 h2=>by
  subst hDD
  unfold dvsF
  have hlt:lates[j]?=some (lates.getD j none):=by
   have:j < lates.length:=by rw [F.llen];exact hj
   simp [List.getD_eq_getElem?_getD,this]
  have:(((lates.zip tos).take n).zip R)[j]?=some ((lates.getD j none,to),v):=by
   rw [List.getElem?_zip_eq_some]
   refine ⟨?_,h2⟩
   rw [List.getElem?_take,if_pos hj,List.getElem?_zip_eq_some];exact ⟨hlt,h1⟩
  rw [List.getElem?_map,this];rfl
 -- a temporary of an operation: its value
 have hone:∀ (i:Nat) (o:Oper) (to:TO) (v:TV) (x:Nat),i < n→ops[i]?=some o→tos[i]?=some to→R[i]?=some v→to.dst=some x→∀ (sel:Nat→Bool),sel i=true→∀ y,valS sel x 0 D y=v:=fun i o to v x hin ho h2 h4 hx sel hs y=>by
  refine valS_one _ (i:=i) (by rw [← hx];exact hDi i to v hin h2 h4) hs fun j u hj=>?_
  obtain ⟨hjn,tj,g1,g2,g3⟩:=hD j _ _ hj
  exact (F.head i o to j tj x hin ho h2 hjn g1 g2).2 hx
 -- what an operation reads
 have hread:∀ (i:Nat) (o:Oper) (to:TO),i < n→ops[i]?=some o→tos[i]?=some to→∀ (sel sel':Nat→Bool),(∀ k ∈ edges o,sel k=true)→(∀ k ∈ edges o,sel' k=true)→∀ t,t ∈ toTmps to→∀ y,valS sel t 0 D y=valS sel' t 0 D y:=fun i o to hin ho h2 sel sel' hs hs' t ht y=>by
  refine valS_congr fun j u hj=>?_
  rw [Nat.zero_add]
  obtain ⟨hjn,tj,g1,g2,g3⟩:=hD j _ _ hj
  obtain ⟨q1,q2⟩:=(F.head i o to j tj t hin ho h2 hjn g1 g2).1 ht
  rw [hs j q2,hs' j q2]
 have hedl:∀ (i:Nat) (o:Oper),ops[i]?=some o→∀ k ∈ edges o,decide (k < i)=true:=fun i o ho k hk=>by simpa using F.edge i o ho k hk
 -- where nothing of the chain stands the heap is the same
 have gap:∀ d p,p+d≤n→(∀ q,p≤q→q < p+d→lates.getD q none=none)→G[p]?=G[p+d]?:=by
  intro d
  induction d with
  | zero=>intro p _ _;rfl
  | succ d ih =>
   intro p hpn hq
   rw [ih p (by omega) fun q h1 h2=>hq q h1 (by omega)]
   obtain ⟨o,to,v,ei,Hi,Hi',k1,k2,_,k4,k5,k6,k7,k8⟩:=hl (p+d) (by omega)
   rw [hq (p+d) (by omega) (by omega)] at k8
   obtain ⟨_,_,rfl,_⟩:=k8
   rw [k5,← Nat.add_assoc,k6]
 -- an operation that comes late says the same
 have fval:∀ j o to v ej,j < n→ops[j]?=some o→tos[j]?=some to→R[j]?=some v→lates.getD j none=none→(∀ t,get ej t=valS (fun k=>decide (k < j)) t 0 D (get e t))→∀ d,j+d≤n→(∀ q,j < q→q < j+d→lates.getD q none ≠ none→j ∉ ancs.getD q [])→∀ Hp,G[j+d]?=some Hp →
   opA S (keepEnv (topTmps to.op) ej) Hp Hp.length to.op=some (v,[]):=by
  intro j o to v ej hj ho hto hv hno hej d
  obtain ⟨o',to',v',ei,Hi,Hi',k1,k2,_,k4,k5,k6,k7,k8⟩:=hl j hj
  rw [ho] at k1;cases k1
  rw [hto] at k2;cases k2
  rw [hv] at k4;cases k4
  rw [hno] at k8
  obtain ⟨gn,⟨x,hx⟩,rfl,hA⟩:=k8
  have hje:keepEnv (topTmps to.op) ej=keepEnv (topTmps to.op) ei:=keepEnv_congr fun t _=>by rw [hej,k7]
  induction d with
  | zero =>
   intro _ _ Hp hG
   rw [Nat.add_zero,k5] at hG
   cases hG
   rw [hje];exact hA
  | succ d ih =>
   intro hdn hq Hp hG
   obtain ⟨oq,tq,vq,eq,Hq,Hq',p1,p2,_,p4,p5,p6,p7,p8⟩:=hl (j+d) (by omega)
   rw [← Nat.add_assoc] at hG
   rw [p6] at hG
   cases hG
   have ih':=ih (by omega) (fun q h1 h2=>hq q h1 (by omega)) Hq p5
   cases hla:lates.getD (j+d) none with
   | none =>
    rw [hla] at p8
    obtain ⟨_,_,rfl,_⟩:=p8
    exact ih'
   | some lt =>
    rw [hla] at p8
    have hd0:0 < d:=by
     rcases Nat.eq_zero_or_pos d with h | h
     ·subst h;rw [Nat.add_zero,hno] at hla;cases hla
     ·exact h
    rcases p8 with ⟨_,_,g3⟩ | ⟨_,_,rfl⟩
    ·rcases F.spine (j+d) lt (by omega) hla j (by omega) with g | ⟨_,tj,x',q1,q2,q3⟩
     ·exact absurd g (hq (j+d) (by omega) (by omega) (by rw [hla];simp))
     ·rw [hto] at q1;cases q1
      rw [hx] at q2;cases q2
      obtain ⟨oo,e3,⟨j',s1,s2,s3⟩,g4,g5⟩:=g3 x q3
      have hjj:j'=j:=(F.head j o to j' _ x hj ho hto (by omega) s3 rfl).2 hx
      subst hjj
      rw [hto] at s3
      cases s3
      have hne:tq.dst ≠ some x:=fun hh=>by
       have:=(F.head j' o _ (j'+d) tq x hj ho hto (by omega) p2 hh).2 rfl
       omega
      have hgx:get e3 x=v:=by
       rw [g4,if_neg hne,p7]
       exact hone j' o _ v x hj ho hto hv rfl _ (by simp;omega) _
      rw [hgx] at g5
      have hke:keepEnv (topTmps oo) ej=keepEnv (topTmps oo) e3:=keepEnv_congr fun t ht=>by
       have htt:t ∈ toTmps (⟨some x,none,oo⟩:TO):=by unfold toTmps;exact List.mem_append_left _ ht
       rw [g4,if_neg fun hh=>by
        have:=(F.head j' o _ (j'+d) tq t hj ho hto (by omega) p2 hh).1 htt
        have:=F.edge j' o ho _ this.2
        omega,p7,hej]
       exact hread j' o _ hj ho hto _ _ (hedl j' o ho) (fun k hk=>by have:=F.edge j' o ho k hk;simp;omega) t htt _
      show opA S (keepEnv (topTmps oo) ej) Hp Hp.length oo=_
      rw [hke];exact g5
    ·exact ih'
 -- what a listed operation has behind it
 have hanc:∀ (listed:Array Bool),listed.size=ops.size→(∀ j o,ops[j]?=some o→listed.getD j false=true→∀ k ∈ edges o,listed.getD k false=true)→∀ (k:Nat),listed.getD k false=true→∀ b ∈ ancs.getD k [],listed.getD b false=true:=by
  intro listed hsz hcl k
  induction k using Nat.strongRecOn with
  | _ k ihk =>
   intro hk b hb
   have hkl:k < ops.size:=by
    rw [← hsz]
    rcases Nat.lt_or_ge k listed.size with h' | h'
    ·exact h'
    ·simp [Array.getElem?_eq_none h'] at hk
   have ho:ops[k]?=some ops[k]:=Array.getElem?_eq_getElem hkl
   rcases F.anc k _ ho b hb with g | ⟨j,g1,g2⟩
   ·exact hcl k _ ho hk b g
   ·exact ihk j (F.edge k _ ho j g1) (hcl k _ ho hk j g1) b g2
 have hgd:∀ (listed:Array Bool),listed.size=ops.size→∀ j d,j < ops.size→listed.getD j d=listed.getD j false:=fun listed hsz j d hj=>by simp [hsz,hj]
 have key:∀ (m:Nat) (listed:Array Bool),listed.size=ops.size→(∀ j,n≤j→listed.getD j false=false)→(∀ j o,ops[j]?=some o→listed.getD j false=true→∀ k ∈ edges o,listed.getD k false=true) →
   (List.range n).countP (fun j=>!listed.getD j false)=m→∀ (p:Nat) (Hp:Heap),p≤n→(∀ q,q < p→lates.getD q none ≠ none→listed.getD q false=true)→(∀ q,p≤q→q < n→lates.getD q none ≠ none→listed.getD q false=false)→G[p]?=some Hp →
   ∀ (w1:World) (I1:Nat→Nat→Prop) (μ1:Mu) (a1:Act),Stp w I μ (look H) w1 I1 μ1 (look Hp)→HR w1 I1 μ1 (look Hp)→(∀ id,Hp.length≤id→μ1 id=none) →
   (∀ t,VR w1 I1 μ1 (valS (fun j=>listed.getD j false) t 0 D (get e t)) (a1.tmps.getD t undef))→nt≤a1.tmps.size→a1.defers=[]→wpAny P .any ops Q (m+(ops.size - n)) listed a1 w1:=by
  intro m
  induction m with
  | zero =>
   intro listed hsz hltl hcl hcnt p Hp hpn hbe hup hG w1 I1 μ1 a1 hst hhr hdom henv hsize hdef
   have hall:∀ j,j < n→listed.getD j false=true:=fun j hj=>by
    have:=List.countP_eq_zero.1 hcnt j (by simpa using hj)
    simpa using this
   have hcan:listed=(Array.range ops.size).map fun j=>decide (j < n):=by
    refine Array.ext (by simp [hsz]) fun j h1 h2=>?_
    have hg:listed.getD j false=listed[j]:=by simp [h1]
    simp only [Array.getElem_map,Array.getElem_range]
    by_cases hj:j < n
    ·rw [← hg,hall j hj];simp [hj]
    ·rw [← hg,hltl j (by omega)];simp [hj]
   have hHp:Hp=H1:=by
    have:=gap (n - p) p (by omega) fun q h1 h2=>Classical.byContradiction fun hne=>by
     have:=hup q h1 (by omega) hne
     rw [hall q (by omega)] at this;cases this
    rw [show p+(n - p)=n by omega,r3,hG] at this
    exact Option.some.inj this
   subst hHp
   have hInv:Inv nt w1 I1 μ1 Hp e1 a1:=by
    refine ⟨hhr,hdom,fun t=>?_,hsize,hdef⟩
    rw [r4 t]
    have hc:valS (fun j=>listed.getD j false) t 0 D (get e t)=valS (fun _=>true) t 0 D (get e t):=valS_congr fun j v hj=>by
     rw [Nat.zero_add];exact hall j (hD j _ _ hj).1
    rw [← hc];exact henv t
   have hlist:=runOps_ok (ops:=ops) (Q:=Q) hS hrec htl hrun2 hInv fun a' w' ⟨I',μ',g1,g2⟩=>hQ a' w' ⟨I',μ',hst.trans g1,g2⟩
   have:=wpAny_of_seq (md:=.any) (Q':=Q) (ops.toList.drop n) n listed a1 w1 (fun j=>by simp [List.getElem?_drop]) (by rw [hcan];simpa using F.seq) hlist
   simpa using this
  | succ m ih =>
   intro listed hsz hltl hcl hcnt p Hp hpn hbe hup hG w1 I1 μ1 a1 hst hhr hdom henv hsize hdef
   rw [show m+1+(ops.size - n)=(m+(ops.size - n))+1 by omega]
   obtain ⟨j0,hj0,hj1⟩:∃ j,j < n∧listed.getD j false=false:=by
    have:0 < (List.range n).countP (fun j=>!listed.getD j false):=by omega
    obtain ⟨j,h1,h2⟩:=List.countP_pos_iff.1 this
    exact ⟨j,by simpa using h1,by simpa using h2⟩
   refine ⟨fun h0=>?_,fun i hr=>?_⟩
   ·-- the least that is not listed is ready
    exfalso
    have least:∀ j,j < n→listed.getD j false=false→∃ i,i ∈ Region.ready .any ops listed:=by
     intro j
     induction j using Nat.strongRecOn with
     | _ j ihj =>
      intro hj hl0
      have hjl:j < ops.size:=by omega
      have ho:ops[j]?=some ops[j]:=Array.getElem?_eq_getElem hjl
      by_cases hall:∀ k ∈ edges ops[j],listed.getD k false=true
      ·refine ⟨j,mem_ready.2 ⟨by rw [hgd listed hsz j true hjl];exact hl0,_,ho,fun ed he hb=>hall _ ?_⟩⟩
       unfold edges
       rw [List.mem_map]
       exact ⟨ed,by rw [List.mem_filter];exact ⟨by simpa using he,hb⟩,rfl⟩
      ·simp only [Classical.not_forall] at hall
       obtain ⟨k,hk,hkf⟩:=hall
       have hkj:=F.edge j _ ho k hk
       exact ihj k hkj (by omega) (by simpa using hkf)
    obtain ⟨i,hi'⟩:=least j0 hj0 hj1
    rw [h0] at hi';cases hi'
   ·obtain ⟨h0,o,ho,hall⟩:=mem_ready.1 hr
    have hil:i < ops.size:=(Array.getElem?_eq_some_iff.1 ho).1
    have hun:listed.getD i false=false:=by rw [← hgd listed hsz i true hil];exact h0
    have hed:∀ k ∈ edges o,listed.getD k false=true:=fun k hk=>by
     unfold edges at hk
     rw [List.mem_map] at hk
     obtain ⟨ed,h1,rfl⟩:=hk
     rw [List.mem_filter] at h1
     exact hall ed (by simpa using h1.1) h1.2
    have han:∀ b ∈ ancs.getD i [],listed.getD b false=true:=fun b hb=>by
     rcases F.anc i _ ho b hb with g | ⟨j,g1,g2⟩
     ·exact hed b g
     ·exact hanc listed hsz hcl j (hed j g1) b g2
    have hin:i < n:=by
     rcases Nat.lt_or_ge i n with h | h
     ·exact h
     ·have:=han j0 (F.tail i h hil j0 hj0)
      rw [hj1] at this;cases this
    obtain ⟨o',to,v,ei,Hi,Hi',ho',h2,hto,h4,h5,h6,h7,h8⟩:=hl i hin
    rw [ho] at ho';cases ho'
    have s1:∀ j,(listed.setIfInBounds i true).getD j false=true ↔ listed.getD j false=true∨j=i:=fun j=>by
     by_cases hij:i=j
     ·subst hij
      have:i < listed.size:=by rw [hsz];exact hil
      simp [this]
     ·rw [getD_set_ne false hij]
      exact ⟨.inl,fun h=>h.resolve_right fun hh=>hij hh.symm⟩
    have s2:∀ j,j ≠ i→(listed.setIfInBounds i true).getD j false=listed.getD j false:=fun j hj=>getD_set_ne false (Ne.symm hj)
    have hgets:∀ t,t ∈ toTmps to→get ei t=valS (fun j=>listed.getD j false) t 0 D (get e t):=fun t ht=>by
     rw [h7 t];exact hread i o to hin ho h2 _ _ (hedl i o ho) hed t ht _
    have henvE:∀ t,t ∈ toTmps to→VR w1 I1 μ1 (get ei t) (a1.tmps.getD t undef):=fun t ht=>by rw [hgets t ht];exact henv t
    have hE:ER w1 I1 μ1 (keepEnv (topTmps to.op) ei) a1.tmps:=fun t=>by
     rcases keepEnv_in (l:=topTmps to.op) (e:=ei) t with ⟨g1,g2⟩ | g1
     ·rw [g1];exact henvE t (by unfold toTmps;exact List.mem_append_left _ g2)
     ·rw [g1];exact .undef _ _
    obtain ⟨hop,hd,hlt,hg⟩:=hto
    obtain ⟨wy,wn⟩:=want_ok hg henvE
    have hval:∀ t,valS (fun j=>(listed.setIfInBounds i true).getD j false) t 0 D (get e t)=if to.dst=some t then v else valS (fun j=>listed.getD j false) t 0 D (get e t):=fun t=>by
     by_cases hdt:to.dst=some t
     ·rw [if_pos hdt]
      exact hone i o to v t hin ho h2 h4 hdt _ ((s1 i).2 (.inr rfl)) _
     ·rw [if_neg hdt]
      refine valS_congr fun j u hj=>?_
      rw [Nat.zero_add]
      refine s2 j fun hji=>hdt ?_
      subst hji
      obtain ⟨hjn,tj,k1,k2,k3⟩:=hD j _ _ hj
      rw [h2] at k1;cases k1
      exact k2
    have hcnt':(List.range n).countP (fun j=>!(listed.setIfInBounds i true).getD j false)=m:=by
     have:=countP_unset (p:=fun j=>!listed.getD j false) (p':=fun j=>!(listed.setIfInBounds i true).getD j false) hin (by simp only [hun,Bool.not_false]) (fun j=>by
      by_cases hji:j=i
      ·subst hji
       have:(listed.setIfInBounds j true).getD j false=true:=(s1 j).2 (.inr rfl)
       simp only [this];simp
      ·simp only [s2 j hji]
       have:(j != i)=true:=by simpa using hji
       simp [this])
     omega
    have hcl':∀ j oj,ops[j]?=some oj→(listed.setIfInBounds i true).getD j false=true→∀ k ∈ edges oj,(listed.setIfInBounds i true).getD k false=true:=fun j oj hoj hj k hk=>by
     refine (s1 k).2 (.inl ?_)
     rcases (s1 j).1 hj with g | g
     ·exact hcl j oj hoj g k hk
     ·subst g;rw [ho] at hoj;cases hoj;exact hed k hk
    have hltl':∀ j,n≤j→(listed.setIfInBounds i true).getD j false=false:=fun j hj=>by rw [s2 j (by omega)];exact hltl j hj
    -- behind it
    have go:∀ (p':Nat) (Hp':Heap),p'≤n→(∀ q,q < p'→lates.getD q none ≠ none→(listed.setIfInBounds i true).getD q false=true)→(∀ q,p'≤q→q < n→lates.getD q none ≠ none→(listed.setIfInBounds i true).getD q false=false)→G[p']?=some Hp' →
      ∀ (vv:Value) (w':World) (I':Nat→Nat→Prop) (μ':Mu),Stp w1 I1 μ1 (look Hp) w' I' μ' (look Hp')→HR w' I' μ' (look Hp')→(∀ id,Hp'.length≤id→μ' id=none)→VR w' I' μ' v vv→wpAny P .any ops Q (m+(ops.size - n)) (listed.setIfInBounds i true) (a1.put o.dst vv) w':=by
     intro p' Hp' q1 q2 q3 q4 vv w' I' μ' t1 t2 t3 t4
     refine ih _ (by simpa using hsz) hltl' hcl' hcnt' p' Hp' q1 q2 q3 q4 w' I' μ' _ (hst.trans t1) t2 t3 (fun t=>?_) ?_ ?_
     ·have old:=t1.vr hhr (henv t)
      rw [hval t,hd]
      cases hod:o.dst with
      | none=>simp only [Act.put];rw [if_neg (by simp)];exact old
      | some y =>
       have hy:y < a1.tmps.size:=Nat.lt_of_lt_of_le (hlt y hod) hsize
       simp only [Act.put,Option.some.injEq]
       by_cases hyt:y=t
       ·subst hyt
        rw [if_pos rfl]
        simpa [hy] using t4
       ·rw [if_neg hyt]
        rw [Array.getD_eq_getD_getElem?] at old ⊢
        rw [Array.getElem?_setIfInBounds_ne hyt]
        exact old
     ·cases o.dst with
      | none=>exact hsize
      | some y=>simpa [Act.put] using hsize
     ·cases o.dst <;> exact hdef
    -- what of the chain stands ahead of it is listed
    have hgap:p≤i→(∀ q,q < i→lates.getD q none ≠ none→q ∈ ancs.getD i [])→Hp=Hi:=fun hpi hch=>by
     have:=gap (i - p) p (by omega) fun q g1 g2=>Classical.byContradiction fun hne=>by
      have k1:=hup q g1 (by omega) hne
      rw [han q (hch q (by omega) hne)] at k1;cases k1
     rw [show p+(i - p)=i by omega,hG,h5] at this
     exact Option.some.inj this
    unfold wpOp
    rw [ho]
    simp only
    cases hla:lates.getD i none with
    | none =>
     rw [hla] at h8
     obtain ⟨gn,⟨x,hx⟩,rfl,hA⟩:=h8
     have hA':opA S (keepEnv (topTmps to.op) ei) Hp Hp.length to.op=some (v,[]):=by
      rcases Nat.lt_or_ge i p with hip | hip
      ·have:=fval i o to v ei hin ho h2 h4 hla h7 (p - i) (by omega) (fun q g1 g2 g3 hm'=>by
        have k1:=hanc listed hsz hcl q (hbe q (by omega) g3) i hm'
        rw [hun] at k1;cases k1) Hp (by rw [show i+(p - i)=p by omega];exact hG)
       exact this
      ·rw [hgap hip fun q hq hne=>F.chain i hin q hq hne hla];exact hA
     rw [if_pos (wy (by rw [gn];trivial))]
     left
     have hM:=(opA_ok (o:=o) (a:=a1) hS.rule hS.ovl rfl hop hhr hE (fun id g1 g2=>hdom id g1) hA').mok hdom
     rw [List.append_nil] at hM
     refine hM _ _ fun vv w' I' μ' t1 t2 t3 t4=>go p Hp hpn (fun q hq hne=>(s1 q).2 (.inl (hbe q hq hne))) (fun q g1 g2 g3=>?_) hG vv w' I' μ' t1 t2 t3 t4
     rw [s2 q fun hh=>by subst hh;rw [hla] at g3;exact g3 rfl]
     exact hup q g1 g2 g3
    | some lt =>
     have hpi:p≤i:=by
      rcases Nat.lt_or_ge i p with h | h
      ·have:=hbe i h (by rw [hla];simp)
       rw [hun] at this;cases this
      ·exact h
     have hch:∀ q,q < i→lates.getD q none ≠ none→q ∈ ancs.getD i []:=fun q hq hne=>(F.spine i lt hin hla q hq).resolve_right fun h=>hne h.1
     have hHi:=hgap hpi hch
     subst hHi
     have q2:∀ q,q < i+1→lates.getD q none ≠ none→(listed.setIfInBounds i true).getD q false=true:=fun q hq hne=>by
      by_cases hqi:q=i
      ·exact (s1 q).2 (.inr hqi)
      ·exact (s1 q).2 (.inl (han q (hch q (by omega) hne)))
     have q3:∀ q,i+1≤q→q < n→lates.getD q none ≠ none→(listed.setIfInBounds i true).getD q false=false:=fun q g1 g2 g3=>by
      rw [s2 q (by omega)];exact hup q (by omega) g2 g3
     rw [hla] at h8
     rcases h8 with ⟨gy,hR,_⟩ | ⟨gno,rfl,rfl⟩
     ·rw [if_pos (wy gy)]
      left
      have hM:=runOp_ok (o:=o) (a:=a1) hS hrec rfl hop hhr hE hdom hR
      exact hM _ _ fun vv w' I' μ' t1 t2 t3 t4=>go (i+1) Hi' (by omega) q2 q3 h6 vv w' I' μ' t1 t2 t3 t4
     ·rw [if_neg (by rw [wn gno];simp)]
      exact go (i+1) _ (by omega) q2 q3 h6 undef w1 I1 μ1 (Stp.refl _ _ _ _) hhr hdom (.tup _ _ _ rfl (fun k t v hk=>by simp at hk))
 refine wp_region_any hm (hp Q a w.drew ?_)
 have hgf:∀ j,(Array.replicate ops.size false).getD j false=false:=fun j=>by
  rw [Array.getD_eq_getD_getElem?,Array.getElem?_replicate]
  split <;> rfl
 have hcnt:(List.range n).countP (fun j=>!(Array.replicate ops.size false).getD j false)=n:=by
  have:(List.range n).countP (fun j=>!(Array.replicate ops.size false).getD j false)=(List.range n).length:=List.countP_eq_length.2 fun j _=>by rw [hgf j];rfl
  rw [this];simp
 have hx:=Ext.drew w
 have hrd:HR w.drew I μ (look H):=hi.hr.ext hx (fun _ _ h=>h) (fun _ _ h=>.inl h) hi.hr.lt.lt
 have hfin:=key n (Array.replicate ops.size false) (by simp) (fun j _=>hgf j) (fun j o _ hj=>by rw [hgf j] at hj;cases hj) hcnt 0 H (by omega) (fun q h _=>by omega) (fun q _ _ _=>hgf q) r2 w.drew I μ a
  ⟨hx.step _,fun _ _ h=>h,fun _ _ h=>.inl (.inl h),Mu.le_refl _,fun b k h=>.inl h⟩ hrd hi.dom (fun t=>?_) hi.size hi.defers
 ·rw [show n+(ops.size - n)=ops.size by omega] at hfin
  exact hfin
 ·rw [valS_none fun j v _=>by rw [Nat.zero_add];exact hgf j]
  exact (hi.env t).mono (hx.same I) (fun _ _ h=>h) _ (Mu.le_refl _)
end
end Go.Proofs.TM
