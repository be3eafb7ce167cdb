import Derived.Test.YtlajjnljeebkkaaGreatDoorTRun
namespace Go.Proofs.TM
open Go
theorem maskS_length (sel:Nat→Bool):∀ (k:Nat) (Ns:List (List Blk)),(maskS sel k Ns).length=(Ns.flatten).length
 | _,[]=>rfl
 | k,N::Ns=>by
  simp only [maskS,List.length_append,List.flatten_cons,maskS_length sel (k+1) Ns]
  split <;> simp
theorem maskS_live {sel sel':Nat→Bool}:∀ {k:Nat} {Ns Ms:List (List Blk)} {id sz:Nat} {l:List (List TV)},(∀ i,k≤i→i < k+Ns.length→sel i=true→sel' i=true)→(maskS sel k Ns)[id]?=some (.live sz l)→(maskS sel' k (Ns++Ms))[id]?=some (.live sz l)
 | _,[],_,_,_,_,_,h=>by simp [maskS] at h
 | k,N::Ns,Ms,id,sz,l,hs,h=>by
  simp only [maskS,List.cons_append] at h ⊢
  have hl1:(if sel k=true then N else List.replicate N.length Blk.dead).length=N.length:=by split <;> simp
  have hl2:(if sel' k=true then N else List.replicate N.length Blk.dead).length=N.length:=by split <;> simp
  by_cases hid:id < N.length
  ·rw [List.getElem?_append_left (by rw [hl1];exact hid)] at h
   rw [List.getElem?_append_left (by rw [hl2];exact hid)]
   by_cases hk:sel k=true
   ·rw [if_pos hk] at h
    rw [if_pos (hs k (Nat.le_refl _) (by simp) hk)]
    exact h
   ·rw [if_neg hk,List.getElem?_replicate,if_pos hid] at h
    cases h
  ·rw [List.getElem?_append_right (by rw [hl1];omega),hl1] at h
   rw [List.getElem?_append_right (by rw [hl2];omega),hl2]
   exact maskS_live (fun i h1 h2=>hs i (by omega) (by simp;omega)) h
theorem maskS_put {sel sel':Nat→Bool}:∀ {k:Nat} {Ns:List (List Blk)} {i:Nat} {N:List Blk} {id sz:Nat} {l:List (List TV)},Ns[i]?=some N→(∀ j,k≤j→sel' j=true→sel j=true∨j=k+i)→(maskS sel' k Ns)[id]?=some (.live sz l) →
  (∃ j,id=((Ns.take i).flatten).length+j∧j < N.length∧N[j]?=some (.live sz l))∨(maskS sel k Ns)[id]?=some (.live sz l)
 | _,[],_,_,_,_,_,_,_,h=>by simp [maskS] at h
 | k,N0::Ns,0,N,id,sz,l,hN,hs,h=>by
  simp only [List.getElem?_cons_zero,Option.some.injEq] at hN
  subst hN
  simp only [maskS] at h ⊢
  have hl1:(if sel k=true then N0 else List.replicate N0.length Blk.dead).length=N0.length:=by split <;> simp
  have hl2:(if sel' k=true then N0 else List.replicate N0.length Blk.dead).length=N0.length:=by split <;> simp
  by_cases hid:id < N0.length
  ·left
   rw [List.getElem?_append_left (by rw [hl2];exact hid)] at h
   by_cases hk:sel' k=true
   ·rw [if_pos hk] at h;exact ⟨id,by simp,hid,h⟩
   ·rw [if_neg hk,List.getElem?_replicate,if_pos hid] at h;cases h
  ·right
   rw [List.getElem?_append_right (by rw [hl2];omega),hl2] at h
   rw [List.getElem?_append_right (by rw [hl1];omega),hl1]
   have:=maskS_live (sel:=sel') (sel':=sel) (Ms:=[]) (k:=k+1) (fun j h1 h2 h3=>(hs j (by omega) h3).resolve_right (by omega)) h
   simpa using this
 | k,N0::Ns,i+1,N,id,sz,l,hN,hs,h=>by
  simp only [List.getElem?_cons_succ] at hN
  simp only [maskS] at h ⊢
  have hl1:(if sel k=true then N0 else List.replicate N0.length Blk.dead).length=N0.length:=by split <;> simp
  have hl2:(if sel' k=true then N0 else List.replicate N0.length Blk.dead).length=N0.length:=by split <;> simp
  by_cases hid:id < N0.length
  ·right
   rw [List.getElem?_append_left (by rw [hl2];exact hid)] at h
   rw [List.getElem?_append_left (by rw [hl1];exact hid)]
   by_cases hk:sel' k=true
   ·rw [if_pos hk] at h
    rw [if_pos ((hs k (Nat.le_refl _) hk).resolve_right (by omega))]
    exact h
   ·rw [if_neg hk,List.getElem?_replicate,if_pos hid] at h;cases h
  ·rw [List.getElem?_append_right (by rw [hl2];omega),hl2] at h
   rcases maskS_put hN (fun j h1 h2=>(hs j (by omega) h2).imp (fun hh=>hh) (fun hh=>by omega)) h with ⟨j,h1,h2,h3⟩ | h1
   ·left
    refine ⟨j,?_,h2,h3⟩
    simp only [List.take_succ_cons,List.flatten_cons,List.length_append]
    omega
   ·right
    rw [List.getElem?_append_right (by rw [hl1];omega),hl1]
    exact h1
def valS (sel:Nat→Bool) (t:Nat):Nat→List (Option Nat×TV)→TV→TV
 | _,[],x=>x
 | k,(d,v)::r,x=>valS sel t (k+1) r (if sel k=true∧d=some t then v else x)
theorem valS_append (sel:Nat→Bool) (t:Nat):∀ (k:Nat) (a b:List (Option Nat×TV)) (x:TV),valS sel t k (a++b) x=valS sel t (k+a.length) b (valS sel t k a x)
 | _,[],_,_=>rfl
 | k,(d,v)::a,b,x=>by
  simp only [List.cons_append,valS,List.length_cons]
  rw [valS_append sel t (k+1) a b,show k+1+a.length=k+(a.length+1) by omega]
theorem valS_congr {sel sel':Nat→Bool} {t:Nat}:∀ {k:Nat} {r:List (Option Nat×TV)} {x:TV},(∀ (j:Nat) (v:TV),r[j]?=some (some t,v)→sel (k+j)=sel' (k+j))→valS sel t k r x=valS sel' t k r x
 | _,[],_,_=>rfl
 | k,(d,v)::r,x,h=>by
  simp only [valS]
  have h0:(sel k=true∧d=some t) ↔ (sel' k=true∧d=some t):=by
   constructor
   ·rintro ⟨h1,rfl⟩
    have this:sel k=sel' k:=h 0 v rfl
    exact ⟨by rw [← this];exact h1,rfl⟩
   ·rintro ⟨h1,rfl⟩
    have this:sel k=sel' k:=h 0 v rfl
    exact ⟨by rw [this];exact h1,rfl⟩
  simp only [h0]
  exact valS_congr fun j v hj=>by
   have:=h (j+1) v (by simpa using hj)
   rw [show k+1+j=k+(j+1) by omega]
   exact this
theorem valS_none {sel:Nat→Bool} {t:Nat}:∀ {k:Nat} {r:List (Option Nat×TV)} {x:TV},(∀ (j:Nat) (v:TV),r[j]?=some (some t,v)→sel (k+j)=false)→valS sel t k r x=x
 | _,[],_,_=>rfl
 | k,(d,v)::r,x,h=>by
  simp only [valS]
  rw [if_neg]
  ·exact valS_none fun j v hj=>by
    have:=h (j+1) v (by simpa using hj)
    rw [show k+1+j=k+(j+1) by omega]
    exact this
  ·rintro ⟨h1,rfl⟩
   have:=h 0 v rfl
   rw [show sel k=false from this] at h1
   cases h1
theorem valS_one {sel:Nat→Bool} {t:Nat} {r:List (Option Nat×TV)} {i:Nat} {v:TV} (x:TV) (hi:r[i]?=some (some t,v)) (hsel:sel i=true) (hu:∀ (j:Nat) (u:TV),r[j]?=some (some t,u)→j=i):valS sel t 0 r x=v:=by
 have hlt:i < r.length:=(List.getElem?_eq_some_iff.1 hi).1
 have hsplit:r=r.take i++(some t,v)::r.drop (i+1):=by
  have h1:r[i]=(some t,v):=(List.getElem?_eq_some_iff.1 hi).2
  rw [← h1,List.getElem_cons_drop,List.take_append_drop]
 have hl:(r.take i).length=i:=by simp;omega
 rw [hsplit,valS_append]
 simp only [valS,hl,Nat.zero_add,hsel,and_self,if_true]
 refine valS_none fun j u hj=>?_
 exfalso
 have:=hu (i+1+j) u (by rw [List.getElem?_drop] at hj;exact hj)
 omega
def guardYes (g:Option (Nat×Bool)) (e:Env):Prop:=match g with
 | none=>True
 | some (t,w)=>get e t=.bool w
def guardNo (g:Option (Nat×Bool)) (e:Env):Prop:=match g with
 | none=>False
 | some (t,w)=>get e t ≠ .bool w∧((∃ b,get e t=.bool b)∨get e t=.tup [])
def OpRun (S:Sys) (H:Heap) (acc:List (List Blk)) (anc:List Nat) (to:TO) (ei:Env) (v:TV) (N:List Blk):Prop :=
 (guardYes to.guard ei∧opA S (keepEnv (topTmps to.op) ei) (H++maskS (fun k=>anc.contains k) 0 acc) (H++maskS (fun k=>anc.contains k) 0 acc).length to.op=some (v,N))∨(guardNo to.guard ei∧v=.tup []∧N=[])
theorem OpRun.reads {S:Sys} {H:Heap} {acc:List (List Blk)} {anc:List Nat} {to:TO} {e e':Env} {v:TV} {N:List Blk} (h:OpRun S H acc anc to e v N) (hg:∀ i,get e' i=get e i):OpRun S H acc anc to e' v N:=by
 have hk:keepEnv (topTmps to.op) e'=keepEnv (topTmps to.op) e:=by unfold keepEnv;simp only [hg]
 unfold OpRun guardYes guardNo at *
 rw [hk]
 cases hgu:to.guard with
 | none=>rw [hgu] at h;exact h
 | some p=>rw [hgu] at h;simp only [hg];exact h
def dvs (l:List (List Nat×TO)) (R:List TV):List (Option Nat×TV):=(l.zip R).map fun p=>(p.1.2.dst,p.2)
theorem get_put (e:Env) (d:Option Nat) (v:TV) (t:Nat):get (put e d v) t=if d=some t then v else get e t:=by
 cases d with
 | none=>simp [put]
 | some x =>
  simp only [put,get]
  by_cases h:t=x
  ·subst h;simp
  ·rw [if_neg h,if_neg (by simpa using fun hh=>h hh.symm)]
theorem runDraw_spec {S:Sys} {H:Heap}:∀ {l:List (List Nat×TO)} {e:Env} {acc:List (List Blk)} {e':Env} {acc':List (List Blk)},runDraw S H l e acc=some (e',acc') →
  ∃ (R:List TV) (Ns:List (List Blk)),R.length=l.length∧Ns.length=l.length∧acc'=acc++Ns∧(∀ t,get e' t=valS (fun _=>true) t 0 (dvs l R) (get e t)) ∧
   ∀ (i:Nat) (anc:List Nat) (to:TO),l[i]?=some (anc,to)→∃ v N ei,R[i]?=some v∧Ns[i]?=some N∧(∀ t,get ei t=valS (fun _=>true) t 0 ((dvs l R).take i) (get e t))∧OpRun S H (acc++Ns.take i) anc to ei v N
 | [],e,acc,e',acc',h=>by
  simp only [runDraw,Option.some.injEq,Prod.mk.injEq] at h
  obtain ⟨rfl,rfl⟩:=h
  exact ⟨[],[],rfl,rfl,by simp,fun t=>rfl,fun i anc to hi=>by simp at hi⟩
 | (anc,to)::l,e,acc,e',acc',h=>by
  -- the first operation,and the rest
  have rest:∀ (e1:Env) (v:TV) (N:List Blk),(∀ i,get e1 i=get e i)→OpRun S H acc anc to e1 v N→runDraw S H l (put e1 to.dst v) (acc++[N])=some (e',acc') →
    ∃ (R:List TV) (Ns:List (List Blk)),R.length=((anc,to)::l).length∧Ns.length=((anc,to)::l).length∧acc'=acc++Ns∧(∀ t,get e' t=valS (fun _=>true) t 0 (dvs ((anc,to)::l) R) (get e t)) ∧
     ∀ (i:Nat) (anc':List Nat) (to':TO),((anc,to)::l)[i]?=some (anc',to')→∃ v N ei,R[i]?=some v∧Ns[i]?=some N∧(∀ t,get ei t=valS (fun _=>true) t 0 ((dvs ((anc,to)::l) R).take i) (get e t))∧OpRun S H (acc++Ns.take i) anc' to' ei v N:=by
   intro e1 v N hget hrun hr
   obtain ⟨R,Ns,h1,h2,h3,h4,h5⟩:=runDraw_spec hr
   have shift:∀ (D:List (Option Nat×TV)) (t:Nat) (x:TV),valS (fun _=>true) t 1 D x=valS (fun _=>true) t 0 D x:=by
    have gen:∀ (D:List (Option Nat×TV)) (t k m:Nat) (x:TV),valS (fun _=>true) t k D x=valS (fun _=>true) t m D x:=by
     intro D
     induction D with
     | nil=>intro t k m x;rfl
     | cons p D ih=>intro t k m x;obtain ⟨d,u⟩:=p;simp only [valS];exact ih t _ _ _
    exact fun D t x=>gen D t 1 0 x
   refine ⟨v::R,N::Ns,by simp [h1],by simp [h2],by rw [h3];simp,fun t=>?_,fun i anc' to' hi=>?_⟩
   ·rw [h4 t,get_put,hget]
    simp only [dvs,List.zip_cons_cons,List.map_cons,valS,true_and]
    exact (shift _ _ _).symm
   ·cases i with
    | zero =>
     simp only [List.getElem?_cons_zero,Option.some.injEq,Prod.mk.injEq] at hi
     obtain ⟨rfl,rfl⟩:=hi
     exact ⟨v,N,e1,rfl,rfl,fun t=>by simp [valS,hget],by simpa using hrun⟩
    | succ i =>
     obtain ⟨v',N',ei,k1,k2,k3,k4⟩:=h5 i anc' to' (by simpa using hi)
     refine ⟨v',N',ei,by simpa using k1,by simpa using k2,fun t=>?_,?_⟩
     ·rw [k3 t,get_put,hget]
      simp only [dvs,List.zip_cons_cons,List.map_cons,List.take_succ_cons,valS,true_and]
      exact (shift _ _ _).symm
     ·simpa using k4
  obtain ⟨d,g,o⟩:=to
  cases g with
  | none =>
   simp only [runDraw] at h
   obtain ⟨v,N,h1,h2⟩:=thenOps_inv h
   exact rest e v N (fun _=>rfl) (.inl ⟨trivial,h1⟩) h2
  | some tw =>
   obtain ⟨t,w⟩:=tw
   simp only [runDraw] at h
   obtain ⟨e1,hget,hcase⟩:=guardOps_inv h
   rcases hcase with ⟨c1,c2⟩ | ⟨c1,c2,c3⟩
   ·obtain ⟨v,N,h1,h2⟩:=thenOps_inv c2
    exact rest e1 v N hget (.inl ⟨by show get e1 t=_;rw [hget];exact c1,h1⟩) h2
   ·exact rest e1 (.tup []) [] hget (.inr ⟨⟨by rw [hget];exact c1,by rw [hget];exact c2⟩,rfl,rfl⟩) c3
section
variable {P:Program} {S:Sys}
theorem merge_ok {w w':World} {I I':Nat→Nat→Prop} {μ μ':Mu} {hL hA hT:Hf} {base:Nat} {N:List Blk} (hr:HR w I μ hL) (hx:Ext w w') (hII:∀ b k,I b k→I' b k) (hnew:∀ b k,I' b k→I b k∨w.heap.size≤b) (hle:μ.le μ')
  (hmu:∀ id,μ' id=μ id∨(base≤id∧id < base+N.length)) (hr':HR w' I' μ' (plc hA base N)) (hf':∀ b k,Foot μ' (plc hA base N) b k→Foot μ hA b k∨w.heap.size≤b) (hsub:∀ id sz l,hA id=.live sz l→hL id=.live sz l)
  (hno:∀ id,base≤id→id < base+N.length→μ id=none)
  (hT1:∀ id sz l,hT id=.live sz l→(base≤id∧id < base+N.length∧N.getD (id - base) .dead=.live sz l)∨(¬ (base≤id∧id < base+N.length)∧hL id=.live sz l)) :
  HR w' I' μ' hT∧∀ b k,Foot μ' hT b k→Foot μ hL b k∨w.heap.size≤b:=by
 have pin:∀ id,base≤id→id < base+N.length→plc hA base N id=N.getD (id - base) .dead:=fun id h1 h2=>by unfold plc;rw [if_pos ⟨h1,h2⟩]
 have oldlt:∀ id sz l loc,hL id=.live sz l→μ id=some loc→loc.blk < w.heap.size:=fun id sz l loc h1 h2=>by
  obtain ⟨loc',c,ty,fr,k1,k2,_⟩:=hr.live id sz l h1
  rw [h2] at k1
  cases k1
  exact (Array.getElem?_eq_some_iff.1 k2).1
 have hout:∀ id,¬ (base≤id∧id < base+N.length)→μ' id=μ id:=fun id h=>(hmu id).resolve_right h
 -- a cell of a new block is new
 have newge:∀ id sz l loc k,base≤id→id < base+N.length→N.getD (id - base) .dead=.live sz l→μ' id=some loc→loc.off≤k→k < loc.top→w.heap.size≤loc.blk:=fun id sz l loc k h1 h2 h3 h4 h5 h6=>by
  have hl:plc hA base N id=.live sz l:=by rw [pin id h1 h2];exact h3
  rcases hf' loc.blk k ⟨id,sz,l,loc,hl,h4,rfl,h5,h6⟩ with h | h
  ·exfalso
   obtain ⟨id0,sz0,l0,loc0,f1,f2,f3,f4,f5⟩:=h
   have hne:¬ (base≤id0∧id0 < base+N.length):=fun hh=>by rw [hno id0 hh.1 hh.2] at f2;cases f2
   have hl0:plc hA base N id0=.live sz0 l0:=by unfold plc;rw [if_neg hne];exact f1
   exact hr'.disj id id0 sz l sz0 l0 loc loc0 hl hl0 (fun hh=>hne (hh ▸ ⟨h1,h2⟩)) h4 (hle _ _ f2) f3.symm k h5 h6 f4 f5
  ·exact h
 have foot:∀ b k,Foot μ' hT b k→Foot μ hL b k∨w.heap.size≤b:=fun b k ⟨id,sz,l,loc,f1,f2,f3,f4,f5⟩=>by
  rcases hT1 id sz l f1 with ⟨h1,h2,h3⟩ | ⟨h1,h2⟩
  ·right;rw [← f3];exact newge id sz l loc k h1 h2 h3 f2 f4 f5
  ·left;exact ⟨id,sz,l,loc,h2,by rw [← hout id h1];exact f2,f3,f4,f5⟩
 refine ⟨⟨fun id sz l hl=>?_,fun id id' sz l sz' l' loc loc' h1 h2 hne m1 m2 hblk k q1 q2 q3 q4=>?_,fun b k hf hi=>?_,hr'.lt⟩,foot⟩
 ·rcases hT1 id sz l hl with ⟨h1,h2,h3⟩ | ⟨h1,h2⟩
  ·exact hr'.live id sz l (by rw [pin id h1 h2];exact h3)
  ·obtain ⟨loc,c,ty,fr,a1,a2,a3⟩:=hr.live id sz l h2
   exact ⟨loc,c,ty,fr,hle _ _ a1,hx.heap a2,a3.mono (hx.same I) hII hle⟩
 ·rcases hT1 id sz l h1 with ⟨c1,c2,c3⟩ | ⟨c1,c2⟩
  ·rcases hT1 id' sz' l' h2 with ⟨d1,d2,d3⟩ | ⟨d1,d2⟩
   ·exact hr'.disj id id' sz l sz' l' loc loc' (by rw [pin id c1 c2];exact c3) (by rw [pin id' d1 d2];exact d3) hne m1 m2 hblk k q1 q2 q3 q4
   ·have e1:=newge id sz l loc k c1 c2 c3 m1 q1 q2
    have e2:=oldlt id' sz' l' loc' d2 (by rw [← hout id' d1];exact m2)
    omega
  ·rcases hT1 id' sz' l' h2 with ⟨d1,d2,d3⟩ | ⟨d1,d2⟩
   ·have e1:=newge id' sz' l' loc' k d1 d2 d3 m2 q3 q4
    have e2:=oldlt id sz l loc c2 (by rw [← hout id c1];exact m1)
    omega
   ·exact hr.disj id id' sz l sz' l' loc loc' c2 d2 hne (by rw [← hout id c1];exact m1) (by rw [← hout id' d1];exact m2) hblk k q1 q2 q3 q4
 ·obtain ⟨id,sz,l,loc,f1,f2,f3,f4,f5⟩:=hf
  rcases hT1 id sz l f1 with ⟨h1,h2,h3⟩ | ⟨h1,h2⟩
  ·exact hr'.noI b k ⟨id,sz,l,loc,by rw [pin id h1 h2];exact h3,f2,f3,f4,f5⟩ hi
  ·rcases hnew b k hi with g | g
   ·exact hr.noI b k ⟨id,sz,l,loc,h2,by rw [← hout id h1];exact f2,f3,f4,f5⟩ g
   ·have:=oldlt id sz l loc h2 (by rw [← hout id h1];exact f2)
    omega
def startOf (H:Heap) (Ns:List (List Blk)) (j:Nat):Nat:=H.length+((Ns.take j).flatten).length
theorem start_le {H:Heap} {Ns:List (List Blk)} {i j:Nat} {N:List Blk} (hN:Ns[j]?=some N) (hij:j < i):startOf H Ns j+N.length≤startOf H Ns i:=by
 unfold startOf
 have hj:j < Ns.length:=(List.getElem?_eq_some_iff.1 hN).1
 have h1:Ns.take (j+1)=Ns.take j++[N]:=by
  rw [List.take_add_one,hN];rfl
 have h2:Ns.take i=Ns.take (j+1)++(Ns.take i).drop (j+1):=by
  have:Ns.take (j+1)=(Ns.take i).take (j+1):=by rw [List.take_take,Nat.min_eq_left (by omega)]
  rw [this,List.take_append_drop]
 rw [h2,h1]
 simp only [List.flatten_append,List.length_append,List.flatten_cons,List.flatten_nil,List.append_nil]
 omega
structure MI (nt:Nat) (w0:World) (I0:Nat→Nat→Prop) (μ0:Mu) (H:Heap) (Ns:List (List Blk)) (sel:Nat→Bool) (val:Nat→TV) (w:World) (I:Nat→Nat→Prop) (μ:Mu) (a:Act):Prop where
 st:Stp w0 I0 μ0 (look H) w I μ (look (H++maskS sel 0 Ns))
 hr:HR w I μ (look (H++maskS sel 0 Ns))
 dom:∀ id,μ id ≠ none→id < H.length∨∃ j N,sel j=true∧Ns[j]?=some N∧startOf H Ns j≤id∧id < startOf H Ns j+N.length
 env:∀ t,VR w I μ (val t) (a.tmps.getD t undef)
 size:nt≤a.tmps.size
 defers:a.defers=[]
theorem look_mask_old {H:Heap} {sel:Nat→Bool} {Ns:List (List Blk)} {id:Nat} (h:id < H.length):look (H++maskS sel 0 Ns) id=look H id:=look_app_old h
theorem look_mask_new {H:Heap} {M:Heap} {id:Nat} (h:H.length≤id):look (H++M) id=M.getD (id - H.length) .dead:=by
 unfold look
 rw [List.getD_eq_getElem?_getD,List.getElem?_append_right h,List.getD_eq_getElem?_getD]
theorem MI.step {nt:Nat} {w0:World} {I0:Nat→Nat→Prop} {μ0:Mu} {H:Heap} {Ns:List (List Blk)} {sel sel':Nat→Bool} {val val':Nat→TV} {w:World} {I:Nat→Nat→Prop} {μ:Mu} {a:Act} (hm:MI nt w0 I0 μ0 H Ns sel val w I μ a)
  (hS:SysOk P S) {ops:Array Oper} {i:Nat} {o:Oper} {to:TO} (ho:ops[i]?=some o) (hto:TrO P nt ops o to) {anc:List Nat} {v:TV} {N:List Blk} {ei:Env} (hN:Ns[i]?=some N) (hsel:sel i=false) (hanc:∀ j ∈ anc,sel j=true)
  (hget:∀ t,t ∈ toTmps to→get ei t=val t) (hrun:OpRun S H (Ns.take i) anc to ei v N) (hsel':∀ j,sel' j=true ↔ sel j=true∨j=i) (hval':∀ t,val' t=if to.dst=some t then v else val t) {Q:Exit→Act→World→Prop} {K:Act→World→Prop}
  (hK:∀ a' w' I' μ',MI nt w0 I0 μ0 H Ns sel' val' w' I' μ' a'→K a' w'):wpOp P ops Q i K a w:=by
 obtain ⟨hop,hd,hlt,hg⟩:=hto
 have hend:startOf H Ns i+N.length=startOf H Ns i+N.length:=rfl
 have hlenA:∀ (s:Nat→Bool),(H++maskS s 0 (Ns.take i)).length=startOf H Ns i:=fun s=>by rw [List.length_append,maskS_length];rfl
 have hfree:∀ id,startOf H Ns i≤id→id < startOf H Ns i+N.length→μ id=none:=fun id h1 h2=>by
  cases hmu:μ id with
  | none=>rfl
  | some loc =>
   exfalso
   rcases hm.dom id (by rw [hmu];simp) with h | ⟨j,N',g1,g2,g3,g4⟩
   ·have:H.length≤startOf H Ns i:=Nat.le_add_right _ _
    omega
   ·rcases Nat.lt_trichotomy j i with h | h | h
    ·have:=start_le (H:=H) g2 h;omega
    ·subst h;rw [hsel] at g1;cases g1
    ·have:=start_le (H:=H) hN h;omega
 -- the temporaries behind it
 have putEnv:∀ {w':World} {I':Nat→Nat→Prop} {μ':Mu} {vv:Value},Same I w w'→(∀ b k,I b k→I' b k)→μ.le μ'→VR w' I' μ' v vv→∀ t,VR w' I' μ' (val' t) ((a.put o.dst vv).tmps.getD t undef):=by
  intro w' I' μ' vv hsame hII hle hv t
  rw [hval' t,hd]
  cases hod:o.dst with
  | none=>simp only [Act.put];rw [if_neg (by simp)];exact (hm.env t).mono hsame hII _ hle
  | some x =>
   have hx:x < a.tmps.size:=Nat.lt_of_lt_of_le (hlt x hod) hm.size
   simp only [Act.put,Option.some.injEq]
   by_cases hxt:x=t
   ·subst hxt
    rw [if_pos rfl]
    simpa [hx] using hv
   ·rw [if_neg hxt]
    have:=(hm.env t).mono hsame hII _ hle
    rw [Array.getD_eq_getD_getElem?] at this ⊢
    rw [Array.getElem?_setIfInBounds_ne hxt]
    exact this
 have putSize:∀ vv,nt≤(a.put o.dst vv).tmps.size:=fun vv=>by
  cases o.dst with
  | none=>exact hm.size
  | some x=>simpa [Act.put] using hm.size
 have putDef:∀ vv,(a.put o.dst vv).defers=[]:=fun vv=>by cases o.dst <;> exact hm.defers
 -- what is live when it has come up
 have live:∀ id sz l,look (H++maskS sel' 0 Ns) id=.live sz l→(startOf H Ns i≤id∧id < startOf H Ns i+N.length∧N.getD (id - startOf H Ns i) .dead=.live sz l)∨(¬ (startOf H Ns i≤id∧id < startOf H Ns i+N.length)∧look (H++maskS sel 0 Ns) id=.live sz l):=by
  intro id sz l hl
  have old:look (H++maskS sel 0 Ns) id=.live sz l→(startOf H Ns i≤id∧id < startOf H Ns i+N.length∧N.getD (id - startOf H Ns i) .dead=.live sz l)∨(¬ (startOf H Ns i≤id∧id < startOf H Ns i+N.length)∧look (H++maskS sel 0 Ns) id=.live sz l):=fun h=>by
   right
   refine ⟨fun hh=>?_,h⟩
   obtain ⟨loc,c,ty,fr,a1,_⟩:=hm.hr.live id sz l h
   rw [hfree id hh.1 hh.2] at a1
   cases a1
  by_cases hid:id < H.length
  ·rw [look_mask_old hid] at hl
   exact old (by rw [look_mask_old hid];exact hl)
  ·rw [look_mask_new (by omega)] at hl
   have hl':(maskS sel' 0 Ns)[id - H.length]?=some (.live sz l):=by
    rw [List.getD_eq_getElem?_getD] at hl
    cases hq:(maskS sel' 0 Ns)[id - H.length]? with
    | none=>rw [hq] at hl;cases hl
    | some b=>rw [hq] at hl;simp at hl;rw [hl]
   rcases maskS_put (sel:=sel) hN (fun j _ h=>by rw [Nat.zero_add];exact (hsel' j).1 h) hl' with ⟨j,h1,h2,h3⟩ | h1
   ·left
    have he:id=startOf H Ns i+j:=by unfold startOf;omega
    subst he
    refine ⟨Nat.le_add_right _ _,by omega,?_⟩
    rw [Nat.add_sub_cancel_left,List.getD_eq_getElem?_getD,h3];rfl
   ·refine old ?_
    rw [look_mask_new (by omega),List.getD_eq_getElem?_getD,h1];rfl
 have domUp:∀ {μ':Mu},(∀ id,μ' id=μ id∨(startOf H Ns i≤id∧id < startOf H Ns i+N.length))→∀ id,μ' id ≠ none→id < H.length∨∃ j N,sel' j=true∧Ns[j]?=some N∧startOf H Ns j≤id∧id < startOf H Ns j+N.length:=fun hmu id hne=>by
  rcases hmu id with h | h
  ·rw [h] at hne
   rcases hm.dom id hne with g | ⟨j,N',g1,g2,g3,g4⟩
   ·exact .inl g
   ·exact .inr ⟨j,N',(hsel' j).2 (.inl g1),g2,g3,g4⟩
  ·exact .inr ⟨i,N,(hsel' i).2 (.inr rfl),hN,h.1,h.2⟩
 -- the guard
 have hwant:(guardYes to.guard ei→Region.wanted o (yielded ops a.tmps)=true)∧(guardNo to.guard ei→Region.wanted o (yielded ops a.tmps)=false):=by
  have henv:∀ t,t ∈ toTmps to→VR w I μ (get ei t) (a.tmps.getD t undef):=fun t ht=>by rw [hget t ht];exact hm.env t
  cases hog:o.guard with
  | none =>
   rw [hog] at hg
   have htg:to.guard=none:=by
    generalize to.guard=tg at hg
    cases hg;rfl
   rw [htg]
   exact ⟨fun _=>by unfold Region.wanted;rw [hog],fun h=>h.elim⟩
  | some p =>
   obtain ⟨j,want⟩:=p
   rw [hog] at hg
   have htg:∃ t,to.guard=some (t,want)∧(ops[j]?).bind (·.dst)=some t:=by
    generalize to.guard=tg at hg
    cases hg with
    | some hh=>exact ⟨_,rfl,hh⟩
   obtain ⟨t,h1,h2⟩:=htg
   have ht:t ∈ toTmps to:=by unfold toTmps;rw [h1];simp
   have hE:ER w I μ (keepEnv [t] ei) a.tmps:=fun x=>by
    by_cases hx:x=t
    ·subst hx
     have:get (keepEnv [x] ei) x=get ei x:=by simp [keepEnv,get]
     rw [this];exact henv x ht
    ·have:get (keepEnv [t] ei) x=.undef:=by simp [keepEnv,get,hx]
     rw [this];exact .undef _ _
   have hke:get (keepEnv [t] ei) t=get ei t:=by simp [keepEnv,get]
   obtain ⟨w1,w2⟩:=wanted_ok hog h2 hE
   rw [hke] at w1 w2
   rw [h1]
   exact ⟨w1,fun h=>w2 h.1 h.2⟩
 unfold wpOp
 rw [ho]
 simp only
 rcases hrun with ⟨gy,hA⟩ | ⟨gn,rfl,rfl⟩
 ·rw [if_pos (hwant.1 gy)]
  left
  rw [hlenA] at hA
  have hsub:∀ id sz l,look (H++maskS (fun k=>anc.contains k) 0 (Ns.take i)) id=.live sz l→look (H++maskS sel 0 Ns) id=.live sz l:=fun id sz l hl=>by
   by_cases hid:id < H.length
   ·rw [look_mask_old hid] at hl ⊢;exact hl
   ·rw [look_mask_new (by omega)] at hl ⊢
    have hl':(maskS (fun k=>anc.contains k) 0 (Ns.take i))[id - H.length]?=some (.live sz l):=by
     rw [List.getD_eq_getElem?_getD] at hl
     cases hq:(maskS (fun k=>anc.contains k) 0 (Ns.take i))[id - H.length]? with
     | none=>rw [hq] at hl;cases hl
     | some b=>rw [hq] at hl;simp at hl;rw [hl]
    have:=maskS_live (sel':=sel) (Ms:=Ns.drop i) (fun k _ _ hk=>hanc k (by simpa using hk)) hl'
    rw [List.take_append_drop] at this
    rw [List.getD_eq_getElem?_getD,this];rfl
  obtain ⟨hrA,hfA⟩:=hm.hr.sub hsub
  have hE:ER w I μ (keepEnv (topTmps to.op) ei) a.tmps:=fun x=>by
   have:get (keepEnv (topTmps to.op) ei) x=get ei x∧x ∈ topTmps to.op∨get (keepEnv (topTmps to.op) ei) x=.undef:=by
    unfold keepEnv
    induction topTmps to.op with
    | nil=>exact .inr rfl
    | cons k ks ih =>
     simp only [List.map_cons,get]
     by_cases hk:x=k
     ·subst hk;left;simp
     ·rw [if_neg hk]
      rcases ih with ⟨h1,h2⟩ | h1
      ·exact .inl ⟨h1,List.mem_cons_of_mem _ h2⟩
      ·exact .inr h1
   rcases this with ⟨h1,h2⟩ | h1
   ·rw [h1,hget x (by unfold toTmps;exact List.mem_append_left _ h2)];exact hm.env x
   ·rw [h1];exact .undef _ _
  refine opA_ok hS.rule hS.ovl rfl hop hrA hE hfree hA _ _ fun vv w' I' μ' hx h1 h2 h3 h4 h5 h6 h7=>?_
  obtain ⟨q1,q2⟩:=merge_ok hm.hr hx h1 h2 h3 h4 h5 h7 hsub hfree live
  refine hK _ w' I' μ' ⟨?_,q1,domUp h4,putEnv (hx.same I) h1 h3 h6,putSize vv,putDef vv⟩
  exact hm.st.trans ⟨hx.step _,h1,fun b k h=>(h2 b k h).imp .inl (fun h=>h),h3,q2⟩
 ·rw [if_neg (by rw [hwant.2 gn];simp)]
  have hsub:∀ id sz l,look (H++maskS sel' 0 Ns) id=.live sz l→look (H++maskS sel 0 Ns) id=.live sz l:=fun id sz l hl=>by
   rcases live id sz l hl with ⟨h1,h2,h3⟩ | ⟨h1,h2⟩
   ·simp at h2;omega
   ·exact h2
  obtain ⟨q1,q2⟩:=hm.hr.sub hsub
  refine hK _ w I μ ⟨hm.st.trans ⟨WStep.refl _ _,fun _ _ h=>h,fun _ _ h=>.inl (.inl h),Mu.le_refl _,fun b k h=>.inl (q2 b k h)⟩,q1,domUp fun id=>.inl rfl,putEnv ((Ext.refl w).same I) (fun _ _ h=>h) (Mu.le_refl _) (.tup _ _ _ rfl (fun k t v hk=>by simp at hk)),putSize _,putDef _⟩
theorem valS_take {t:Nat} {x:TV} (i:Nat) (D:List (Option Nat×TV)):valS (fun _=>true) t 0 (D.take i) x=valS (fun j=>decide (j < i)) t 0 D x:=by
 have h1:valS (fun _=>true) t 0 (D.take i) x=valS (fun j=>decide (j < i)) t 0 (D.take i) x:=by
  refine valS_congr fun j v hj=>?_
  have:j < (D.take i).length:=(List.getElem?_eq_some_iff.1 hj).1
  simp at this
  have h2:j < i:=by omega
  simp [h2]
 rw [h1]
 conv=>rhs;rw [← List.take_append_drop i D]
 rw [valS_append]
 refine (valS_none fun j v hj=>?_).symm
 have:j < (D.drop i).length:=(List.getElem?_eq_some_iff.1 hj).1
 simp at this ⊢
 omega
theorem countP_unset {p p':Nat→Bool} {i:Nat}:∀ {n:Nat},i < n→p i=true→(∀ j,p' j=(p j && j != i))→(List.range n).countP p=(List.range n).countP p'+1
 | 0,h,_,_=>absurd h (Nat.not_lt_zero _)
 | n+1,h,hp,hp'=>by
  rw [List.range_succ,List.countP_append,List.countP_append]
  by_cases hin:i=n
  ·subst hin
   have h1:(List.range i).countP p=(List.range i).countP p':=List.countP_congr fun j hj=>by
    have:j < i:=by simpa using hj
    rw [hp' j]
    have:(j != i)=true:=by simp;omega
    simp [this]
   have h2:p' i=false:=by rw [hp'];simp
   simp [h1,hp,h2]
  ·have h1:=countP_unset (n:=n) (by omega) hp hp'
   have h2:p' n=p n:=by
    rw [hp']
    have:(n != i)=true:=by simp;omega
    simp [this]
   rw [h1]
   simp only [List.countP_singleton,h2]
   omega
theorem TrOs.length {nt:Nat} {ops:Array Oper} {os:List Oper} {tos:List TO} (h:TrOs P nt ops os tos):tos.length=os.length:=by
 induction h with
 | nil=>rfl
 | cons _ _ ih=>simp [ih]
theorem TrOs.get {nt:Nat} {ops:Array Oper} {os:List Oper} {tos:List TO} (h:TrOs P nt ops os tos):∀ {i:Nat} {o:Oper} {to:TO},os[i]?=some o→tos[i]?=some to→TrO P nt ops o to:=by
 induction h with
 | nil=>intro i o to h;simp at h
 | cons h0 _ ih =>
  intro i o to h1 h2
  cases i with
  | zero=>simp at h1 h2;subst h1;subst h2;exact h0
  | succ i=>exact ih (by simpa using h1) (by simpa using h2)
theorem TrOs.drop {nt:Nat} {ops:Array Oper} {os:List Oper} {tos:List TO} (h:TrOs P nt ops os tos):∀ n,TrOs P nt ops (os.drop n) (tos.drop n):=by
 induction h with
 | nil=>intro n;simp;exact .nil
 | cons h0 hs ih =>
  intro n
  cases n with
  | zero=>exact .cons h0 hs
  | succ n=>simpa using ih n
theorem maskS_all {sel:Nat→Bool}:∀ {k:Nat} {Ns:List (List Blk)},(∀ j,k≤j→j < k+Ns.length→sel j=true)→maskS sel k Ns=Ns.flatten
 | _,[],_=>rfl
 | k,N::Ns,h=>by
  simp only [maskS,List.flatten_cons]
  rw [if_pos (h k (Nat.le_refl _) (by simp)),maskS_all fun j h1 h2=>h j (by omega) (by simp;omega)]
theorem maskS_dead {sel:Nat→Bool} (hs:∀ j,sel j=false):∀ {k:Nat} {Ns:List (List Blk)} {id sz:Nat} {l:List (List TV)},(maskS sel k Ns)[id]? ≠ some (.live sz l)
 | _,[],_,_,_=>by simp [maskS]
 | k,N::Ns,id,sz,l=>by
  intro h
  simp only [maskS,hs k] at h
  by_cases hid:id < (List.replicate N.length Blk.dead).length
  ·rw [List.getElem?_append_left (by simpa using hid)] at h
   simp [List.getElem?_replicate] at h
  ·rw [List.getElem?_append_right (by simpa using hid)] at h
   exact maskS_dead hs h
structure DrawFacts (ops:Array Oper) (tos:List TO) (n:Nat) (ancs:List (List Nat)):Prop where
 len:n≤ops.size
 alen:ancs.length=ops.size
 seq:Region.seqB .any ops (ops.size - n) n ((Array.range ops.size).map fun j=>decide (j < n))=true
 edge:∀ (i:Nat) (o:Oper),ops[i]?=some o→∀ j ∈ edges o,j < i
 anc:∀ (i:Nat) (o:Oper) (an:List Nat),ops[i]?=some o→ancs[i]?=some an→∀ b ∈ an,b ∈ edges o∨∃ j ∈ edges o,b ∈ ancs.getD j []
 head:∀ (i:Nat) (o:Oper) (to:TO) (j:Nat) (tj:TO) (d:Nat),i < n→ops[i]?=some o→tos[i]?=some to→j < n→tos[j]?=some tj→tj.dst=some d→(d ∈ toTmps to→j ≠ i∧j ∈ edges o)∧(to.dst=some d→j=i)
 tail:∀ j,j < n→(∀ (i:Nat) (an:List Nat),n≤i→i < ops.size→ancs[i]?=some an→j ∈ an)∨(∃ to,tos[j]?=some to∧isFloat to=true∧Region.noSelect ops=true∧floatOk ops j=true)
theorem DrawFacts.of {nt:Nat} {ops:Array Oper} {tos:List TO} {n:Nat} {ancs:List (List Nat)} (hts:TrOs P nt ops ops.toList tos) (h:drawOk ops tos n ancs=true):DrawFacts ops tos n ancs:=by
 unfold drawOk at h
 simp only [Bool.and_eq_true,decide_eq_true_eq,List.all_eq_true,List.mem_range] at h
 obtain ⟨⟨⟨⟨h1,h2⟩,h5⟩,h3⟩,h4⟩:=h
 have hlen:tos.length=ops.size:=by simpa using hts.length
 have full:∀ i o,ops[i]?=some o→∃ an to,i < ops.size∧ancs[i]?=some an∧tos[i]?=some to:=fun i o ho=>by
  have hi:i < ops.size:=(Array.getElem?_eq_some_iff.1 ho).1
  exact ⟨_,_,hi,List.getElem?_eq_getElem (by omega),List.getElem?_eq_getElem (by omega)⟩
 refine ⟨h1,h2,h4,fun i o ho j hj=>?_,fun i o an ho ha b hb=>?_,fun i o to j tj d hi ho hto hj htj hd=>?_,fun j hj=>?_⟩
 ·obtain ⟨an,to,hi,ha,hto⟩:=full i o ho
  have:=h3 i hi
  rw [ho,ha,hto] at this
  simp only [Bool.and_eq_true,List.all_eq_true,decide_eq_true_eq] at this
  exact this.1.1 j hj
 ·obtain ⟨an',to,hi,ha',hto⟩:=full i o ho
  have:=h3 i hi
  rw [ho,ha,hto] at this
  simp only [Bool.and_eq_true,List.all_eq_true,decide_eq_true_eq,Bool.or_eq_true,List.any_eq_true,List.contains_iff_mem] at this
  exact this.1.2 b hb
 ·obtain ⟨an,to',hi',ha,hto'⟩:=full i o ho
  have:=h3 i hi'
  rw [ho,ha,hto] at this
  simp only [if_pos hi,Bool.and_eq_true,List.all_eq_true,List.mem_range] at this
  have:=this.2 j hj
  rw [htj] at this
  simp only [Option.bind_some,hd,Bool.and_eq_true,Bool.or_eq_true,Bool.not_eq_true',bne_iff_ne,ne_eq,beq_iff_eq,List.contains_iff_mem] at this
  refine ⟨fun hm=>?_,fun hdd=>?_⟩
  ·rcases this.1 with g | g
   ·have:(toTmps to).contains d=true:=by simpa using hm
    rw [this] at g;cases g
   ·exact g
  ·rcases this.2 with g | g
   ·exact g
   ·exact absurd hdd g
 ·have:=h5 j hj
  simp only [Bool.or_eq_true,Bool.and_eq_true,List.all_eq_true,List.mem_range,decide_eq_true_eq,List.contains_iff_mem] at this
  rcases this with g | ⟨⟨g1,g2⟩,g3⟩
  ·refine .inl fun i an hni hi ha=>?_
   rcases g i hi with q | q
   ·omega
   ·rw [List.getD_eq_getElem?_getD,ha] at q;exact q
  ·right
   cases ht:tos[j]? with
   | none=>rw [ht] at g1;cases g1
   | some to=>rw [ht] at g1;exact ⟨to,rfl,g1,g2,g3⟩
theorem MI.float {nt:Nat} {w0:World} {I0:Nat→Nat→Prop} {μ0:Mu} {H:Heap} {Ns:List (List Blk)} {sel sel':Nat→Bool} {val val':Nat→TV} {w:World} {I:Nat→Nat→Prop} {μ:Mu} {a:Act} (hm:MI nt w0 I0 μ0 H Ns sel val w I μ a)
  {ops:Array Oper} {i:Nat} {o:Oper} {to:TO} (ho:ops[i]?=some o) (hto:TrO P nt ops o to) (hfl:isFloat to=true) {anc:List Nat} {v:TV} {N:List Blk} {ei:Env} (hN:Ns[i]?=some N) (hsel:sel i=false)
  (hget:∀ t,t ∈ toTmps to→get ei t=val t) (hrun:OpRun S H (Ns.take i) anc to ei v N) (hsel':∀ j,sel' j=true ↔ sel j=true∨j=i) (hval':∀ t,val' t=if to.dst=some t then v else val t) :
  ∃ vv,Yields P ops o vv a∧MI nt w0 I0 μ0 H Ns sel' val' w I μ (a.put o.dst vv):=by
 obtain ⟨hop,hd,hlt,hg⟩:=hto
 obtain ⟨d,g,top⟩:=to
 unfold isFloat at hfl
 split at hfl
 case h_2=>cases hfl
 rename_i y k hgn hop'
 simp only at hgn hop'
 subst hgn
 subst hop'
 have hog:o.guard=none:=by
  simp only at hg
  generalize o.guard=og at hg
  cases hg;rfl
 rcases hrun with ⟨_,hA⟩ | ⟨hh,_,_⟩
 case inr=>exact hh.elim
 simp only at hop hd hget hA hval'
 generalize hoo:o.op=oop at hop
 cases hop with
 | @ext x y' n' hx =>
  have hE:ER w I μ (keepEnv (topTmps (.ext y k)) ei) a.tmps:=fun x=>by
   have:get (keepEnv (topTmps (.ext y k)) ei) x=get ei x∧x ∈ topTmps (.ext y k)∨get (keepEnv (topTmps (.ext y k)) ei) x=.undef:=by
    unfold keepEnv
    induction topTmps (.ext y k) with
    | nil=>exact .inr rfl
    | cons k ks ih =>
     simp only [List.map_cons,get]
     by_cases hk:x=k
     ·subst hk;left;simp
     ·rw [if_neg hk]
      rcases ih with ⟨h1,h2⟩ | h1
      ·exact .inl ⟨h1,List.mem_cons_of_mem _ h2⟩
      ·exact .inr h1
   rcases this with ⟨h1,h2⟩ | h1
   ·rw [h1,hget x (by unfold toTmps;exact List.mem_append_left _ h2)];exact hm.env x
   ·rw [h1];exact .undef _ _
  have hv:=hx.ok hE
  simp only [opA] at hA
  split at hA
  case h_2=>cases hA
  rename_i l hl
  rw [Option.map_eq_some_iff] at hA
  obtain ⟨u,hu,hp⟩:=hA
  simp only [Prod.mk.injEq] at hp
  obtain ⟨rfl,rfl⟩:=hp
  rw [hl] at hv
  generalize hcv:a.eval x=cv at hv
  cases hv with
  | tup _ l cs hn hh =>
   have hlt2:k < cs.size:=by
    have:=(List.getElem?_eq_some_iff.1 hu).1
    omega
   have hvr:=hh k u cs[k] hu (by simp [hlt2])
   have hcv':a.eval x=.tuple cs:=hcv
   refine ⟨cs[k],.inl ⟨by unfold Region.wanted;rw [hog],fun w=>by simp [execOp,hoo,hcv',Instr.extract,hlt2]⟩,?_⟩
   have hsub:∀ id sz l,look (H++maskS sel' 0 Ns) id=.live sz l→look (H++maskS sel 0 Ns) id=.live sz l:=by
    intro id sz l hl
    by_cases hid:id < H.length
    ·rw [look_mask_old hid] at hl ⊢;exact hl
    ·rw [look_mask_new (by omega)] at hl ⊢
     have hl':(maskS sel' 0 Ns)[id - H.length]?=some (.live sz l):=by
      rw [List.getD_eq_getElem?_getD] at hl
      cases hq:(maskS sel' 0 Ns)[id - H.length]? with
      | none=>rw [hq] at hl;cases hl
      | some b=>rw [hq] at hl;simp at hl;rw [hl]
     rcases maskS_put (sel:=sel) hN (fun j _ h=>by rw [Nat.zero_add];exact (hsel' j).1 h) hl' with ⟨j,h1,h2,h3⟩ | h1
     ·simp at h2
     ·rw [List.getD_eq_getElem?_getD,h1];rfl
   obtain ⟨q1,q2⟩:=hm.hr.sub hsub
   refine ⟨hm.st.trans ⟨WStep.refl _ _,fun _ _ h=>h,fun _ _ h=>.inl (.inl h),Mu.le_refl _,fun b k h=>.inl (q2 b k h)⟩,q1,fun id hne=>?_,fun t=>?_,?_,?_⟩
   ·rcases hm.dom id hne with g | ⟨j,N',g1,g2,g3,g4⟩
    ·exact .inl g
    ·exact .inr ⟨j,N',(hsel' j).2 (.inl g1),g2,g3,g4⟩
   ·rw [hval' t,hd]
    cases hod:o.dst with
    | none=>simp only [Act.put];rw [if_neg (by simp)];exact hm.env t
    | some x =>
     have hx:x < a.tmps.size:=Nat.lt_of_lt_of_le (hlt x hod) hm.size
     simp only [Act.put,Option.some.injEq]
     by_cases hxt:x=t
     ·subst hxt
      rw [if_pos rfl]
      simpa [hx] using hvr
     ·rw [if_neg hxt]
      have:=hm.env t
      rw [Array.getD_eq_getD_getElem?] at this ⊢
      rw [Array.getElem?_setIfInBounds_ne hxt]
      exact this
   ·cases o.dst with
    | none=>exact hm.size
    | some x=>simpa [Act.put] using hm.size
   ·cases o.dst <;> exact hm.defers
theorem draw_ok {rec:TC→Env→Heap→Option Out} (hS:SysOk P S) (hrec:RecOk P S rec) {nt:Nat} {id:Nat} {ops0 ops:Array Oper} {tos:List TO} {n:Nat} {ancs:List (List Nat)} (hp:Reord P ops0 ops) (hm:P.follows .mixedOrders=true) (hts:TrOs P nt ops ops.toList tos) (hok:drawOk ops tos n ancs=true) {tl:List TO} (htl:TrL P nt ops (ops.toList.drop n) tl)
  {e e1 e2:Env} {H H2:Heap} {Ns:List (List Blk)} (hrun:runDraw S H ((ancs.zip tos).take n) e []=some (e1,Ns)) (hrun2:runOps rec S tl e1 (H++Ns.flatten)=some (e2,H2))
  {w:World} {I:Nat→Nat→Prop} {μ:Mu} {a:Act} (hi:Inv nt w I μ H e a) {Q0:Exit→Act→World→Prop} (hQ0:∀ a' w',(∃ I' μ',Stp w I μ (look H) w' I' μ' (look H2)∧Inv nt w' I' μ' H2 e2 a')→Q0 .normal a' w'):(Code.region id ops0 true).wp P Q0 a w:=by
 obtain ⟨Q,hQd⟩:∃ Q:Exit→Act→World→Prop,Q=fun ex a' w'=>ex=.normal∧∃ I' μ',Stp w I μ (look H) w' I' μ' (look H2)∧Inv nt w' I' μ' H2 e2 a':=⟨_,rfl⟩
 refine wp_mono (Q:=Q) ?_ (fun ex a' w' h=>by rw [hQd] at h;obtain ⟨rfl,h⟩:=h;exact hQ0 a' w' h)
 have hQ:∀ a' w',(∃ I' μ',Stp w I μ (look H) w' I' μ' (look H2)∧Inv nt w' I' μ' H2 e2 a')→Q .normal a' w':=fun a' w' h=>by rw [hQd];exact ⟨rfl,h⟩
 have hQp:∀ c a' w',¬ Q (.panic c) a' w':=fun c a' w' h=>by rw [hQd] at h;cases h.1
 have F:=DrawFacts.of hts hok
 obtain ⟨R,Ns',r1,r2,r3,r4,r5⟩:=runDraw_spec hrun
 simp only [List.nil_append] at r3 r5
 subst r3
 have hlen:tos.length=ops.size:=by simpa using hts.length
 have hll:((ancs.zip tos).take n).length=n:=by
  have:=F.len;have:=F.alen
  simp;omega
 rw [hll] at r1 r2
 -- what the list holds
 have hl:∀ i,i < n→∃ an to v N,ancs[i]?=some an∧tos[i]?=some to∧((ancs.zip tos).take n)[i]?=some (an,to)∧R[i]?=some v∧Ns[i]?=some N:=fun i h=>by
  have:=F.len;have:=F.alen
  have ha:ancs[i]?=some ancs[i]:=List.getElem?_eq_getElem (by omega)
  have ht:tos[i]?=some tos[i]:=List.getElem?_eq_getElem (by omega)
  refine ⟨ancs[i],tos[i],R[i],Ns[i],ha,ht,?_,List.getElem?_eq_getElem (by omega),List.getElem?_eq_getElem (by omega)⟩
  rw [List.getElem?_take,if_pos h]
  simp [List.getElem?_zip_eq_some,ha,ht]
 have hD:∀ j d v,(dvs ((ancs.zip tos).take n) R)[j]?=some (d,v)→j < n∧∃ to,tos[j]?=some to∧to.dst=d∧R[j]?=some v:=fun j d v h=>by
  unfold dvs at h
  have hj:j < n:=by
   have:=(List.getElem?_eq_some_iff.1 h).1
   simp at this;omega
  obtain ⟨an,to,v',N,h1,h2,h3,h4,h5⟩:=hl j hj
  have hz:(((ancs.zip tos).take n).zip R)[j]?=some ((an,to),v'):=by
   rw [List.getElem?_zip_eq_some];exact ⟨h3,h4⟩
  rw [List.getElem?_map,hz] at h
  simp only [Option.map_some,Option.some.injEq,Prod.mk.injEq] at h
  exact ⟨hj,to,h2,h.1,by rw [h4,h.2]⟩
 have hDi:∀ (j:Nat) (an:List Nat) (to:TO) (v:TV),((ancs.zip tos).take n)[j]?=some (an,to)→R[j]?=some v→(dvs ((ancs.zip tos).take n) R)[j]?=some (to.dst,v):=fun j an to v h1 h2=>by
  unfold dvs
  rw [List.getElem?_map]
  have:(((ancs.zip tos).take n).zip R)[j]?=some ((an,to),v):=by rw [List.getElem?_zip_eq_some];exact ⟨h1,h2⟩
  rw [this];rfl
 -- from any stage on
 have key:∀ (m:Nat) (listed:Array Bool),listed.size=ops.size→(∀ j,n≤j→listed.getD j false=false)→(∀ j o,ops[j]?=some o→listed.getD j false=true→∀ k ∈ edges o,listed.getD k false=true) →
   (List.range n).countP (fun j=>!listed.getD j false)=m→∀ (w1:World) (I1:Nat→Nat→Prop) (μ1:Mu) (a1:Act),
   MI nt w I μ H Ns (fun j=>listed.getD j false) (fun t=>valS (fun j=>listed.getD j false) t 0 (dvs ((ancs.zip tos).take n) R) (get e t)) w1 I1 μ1 a1→wpAny P .any ops Q (m+(ops.size - n)) listed a1 w1:=by
  intro m
  induction m with
  | zero =>
   intro listed hsz hltl hcl hcnt w1 I1 μ1 a1 hmi
   have hall:∀ j,j < n→listed.getD j false=true:=fun j hj=>by
    have:=List.countP_eq_zero.1 hcnt j (by simpa using hj)
    simpa using this
   have hcan:listed=(Array.range ops.size).map fun j=>decide (j < n):=by
    refine Array.ext (by simp [hsz]) fun j h1 h2=>?_
    have hg:listed.getD j false=listed[j]:=by simp [h1]
    simp only [Array.getElem_map,Array.getElem_range]
    by_cases hj:j < n
    ·rw [← hg,hall j hj];simp [hj]
    ·rw [← hg,hltl j (by omega)];simp [hj]
   have hmask:maskS (fun j=>listed.getD j false) 0 Ns=Ns.flatten:=maskS_all fun j _ hj=>hall j (by omega)
   have hst:=hmi.st
   have hhr:=hmi.hr
   rw [hmask] at hst hhr
   have hInv:Inv nt w1 I1 μ1 (H++Ns.flatten) e1 a1:=by
    refine ⟨hhr,fun id hid=>?_,fun t=>?_,hmi.size,hmi.defers⟩
    ·cases hmu:μ1 id with
     | none=>rfl
     | some loc =>
      exfalso
      rw [List.length_append] at hid
      rcases hmi.dom id (by rw [hmu];simp) with g | ⟨j,N,g1,g2,g3,g4⟩
      ·omega
      ·have hj:j < Ns.length:=(List.getElem?_eq_some_iff.1 g2).1
       have hfl:startOf H Ns j+N.length≤H.length+Ns.flatten.length:=by
        have hj2:j+1≤Ns.length:=hj
        have h1:Ns.take (j+1)=Ns.take j++[N]:=by rw [List.take_add_one,g2];rfl
        have h2:Ns.flatten=(Ns.take (j+1)).flatten++(Ns.drop (j+1)).flatten:=by rw [← List.flatten_append,List.take_append_drop]
        rw [h2,h1]
        unfold startOf
        simp only [List.flatten_append,List.length_append,List.flatten_cons,List.flatten_nil,List.append_nil]
        omega
       omega
    ·have:=hmi.env t
     rw [r4 t]
     have hc:valS (fun j=>listed.getD j false) t 0 (dvs ((ancs.zip tos).take n) R) (get e t)=valS (fun _=>true) t 0 (dvs ((ancs.zip tos).take n) R) (get e t):=valS_congr fun j v hj=>by
      rw [Nat.zero_add];exact hall j (hD j _ _ hj).1
     rw [← hc];exact this
   have hlist:=runOps_ok (ops:=ops) (Q:=Q) hS hrec htl hrun2 hInv fun a' w' ⟨I',μ',g1,g2⟩=>hQ a' w' ⟨I',μ',hst.trans g1,g2⟩
   have:=wpAny_of_seq (md:=.any) (Q':=Q) (ops.toList.drop n) n listed a1 w1 (fun j=>by simp [List.getElem?_drop]) (by rw [hcan];simpa using F.seq) hlist
   simpa using this
  | succ m ih =>
   intro listed hsz hltl hcl hcnt w1 I1 μ1 a1 hmi
   rw [show m+1+(ops.size - n)=(m+(ops.size - n))+1 by omega]
   -- some operation of the head is not listed
   have hex:∃ j,j < n∧listed.getD j false=false:=by
    have:0 < (List.range n).countP (fun j=>!listed.getD j false):=by omega
    obtain ⟨j,h1,h2⟩:=List.countP_pos_iff.1 this
    exact ⟨j,by simpa using h1,by simpa using h2⟩
   have hgd:∀ j d,j < ops.size→listed.getD j d=listed.getD j false:=fun j d hj=>by simp [hsz,hj]
   -- what a ready operation has behind it
   have hanc:∀ (k:Nat),listed.getD k false=true→∀ b ∈ ancs.getD k [],listed.getD b false=true:=by
    intro k
    induction k using Nat.strongRecOn with
    | _ k ihk =>
     intro hk b hb
     have hkl:k < ops.size:=by
      rw [← hsz]
      rcases Nat.lt_or_ge k listed.size with h' | h'
      ·exact h'
      ·simp [Array.getElem?_eq_none h'] at hk
     have ho:ops[k]?=some ops[k]:=Array.getElem?_eq_getElem hkl
     have ha:ancs[k]?=some (ancs.getD k []):=by
      have:k < ancs.length:=by rw [F.alen];exact hkl
      simp [List.getD_eq_getElem?_getD,this]
     rcases F.anc k _ _ ho ha b hb with g | ⟨j,g1,g2⟩
     ·exact hcl k _ ho hk b g
     ·exact ihk j (F.edge k _ ho j g1) (hcl k _ ho hk j g1) b g2
   have hready:∀ i ∈ Region.ready .any ops listed,∃ o,ops[i]?=some o∧listed.getD i false=false∧(∀ k ∈ edges o,listed.getD k false=true)∧(∀ b ∈ ancs.getD i [],listed.getD b false=true)∧(i < n∨∀ j,j < n→listed.getD j false=false→∃ to,tos[j]?=some to∧isFloat to=true∧Region.noSelect ops=true∧floatOk ops j=true):=fun i hr=>by
    obtain ⟨h0,o,ho,hall⟩:=mem_ready.1 hr
    have hil:i < ops.size:=(Array.getElem?_eq_some_iff.1 ho).1
    have hed:∀ k ∈ edges o,listed.getD k false=true:=fun k hk=>by
     unfold edges at hk
     rw [List.mem_map] at hk
     obtain ⟨ed,h1,rfl⟩:=hk
     rw [List.mem_filter] at h1
     exact hall ed (by simpa using h1.1) h1.2
    have ha:ancs[i]?=some (ancs.getD i []):=by
     have:i < ancs.length:=by rw [F.alen];exact hil
     simp [List.getD_eq_getElem?_getD,this]
    have han:∀ b ∈ ancs.getD i [],listed.getD b false=true:=fun b hb=>by
     rcases F.anc i _ _ ho ha b hb with g | ⟨j,g1,g2⟩
     ·exact hed b g
     ·exact hanc j (hed j g1) b g2
    refine ⟨o,ho,by rw [← hgd i true hil];exact h0,hed,han,?_⟩
    rcases Nat.lt_or_ge i n with h | h
    ·exact .inl h
    ·refine .inr fun j g1 g2=>?_
     rcases F.tail j g1 with q | q
     ·have:=han j (q i _ h hil ha)
      rw [g2] at this;cases this
     ·exact q
   have least:∀ j,j < n→listed.getD j false=false→∃ i ∈ Region.ready .any ops listed,i < n∧listed.getD i false=false:=by
    intro j
    induction j using Nat.strongRecOn with
    | _ j ihj =>
     intro hj hl0
     have hjl:j < ops.size:=Nat.lt_of_lt_of_le hj F.len
     have ho:ops[j]?=some ops[j]:=Array.getElem?_eq_getElem hjl
     by_cases hall:∀ k ∈ edges ops[j],listed.getD k false=true
     ·refine ⟨j,mem_ready.2 ⟨by rw [hgd j true hjl];exact hl0,_,ho,fun ed he hb=>hall _ ?_⟩,hj,hl0⟩
      unfold edges
      rw [List.mem_map]
      exact ⟨ed,by rw [List.mem_filter];exact ⟨by simpa using he,hb⟩,rfl⟩
     ·simp only [Classical.not_forall] at hall
      obtain ⟨k,hk,hkf⟩:=hall
      have hkj:=F.edge j _ ho k hk
      exact ihj k hkj (by omega) (by simpa using hkf)
   -- the stage behind one more
   have next:∀ (i:Nat) (o:Oper) (an:List Nat) (to:TO) (v:TV) (N:List Blk) (ei:Env),i < n→ops[i]?=some o→listed.getD i false=false→(∀ k ∈ edges o,listed.getD k false=true)→tos[i]?=some to→((ancs.zip tos).take n)[i]?=some (an,to)→R[i]?=some v→Ns[i]?=some N →
     (∀ t,get ei t=valS (fun _=>true) t 0 ((dvs ((ancs.zip tos).take n) R).take i) (get e t)) →
     (∀ j,(listed.setIfInBounds i true).getD j false=true ↔ listed.getD j false=true∨j=i) ∧
     (∀ t,t ∈ toTmps to→get ei t=valS (fun j=>listed.getD j false) t 0 (dvs ((ancs.zip tos).take n) R) (get e t)) ∧
     (∀ t,valS (fun j=>(listed.setIfInBounds i true).getD j false) t 0 (dvs ((ancs.zip tos).take n) R) (get e t)=if to.dst=some t then v else valS (fun j=>listed.getD j false) t 0 (dvs ((ancs.zip tos).take n) R) (get e t)) ∧
     (∀ (a':Act) (w':World) (I':Nat→Nat→Prop) (μ':Mu),MI nt w I μ H Ns (fun j=>(listed.setIfInBounds i true).getD j false) (fun t=>valS (fun j=>(listed.setIfInBounds i true).getD j false) t 0 (dvs ((ancs.zip tos).take n) R) (get e t)) w' I' μ' a'→wpAny P .any ops Q (m+(ops.size - n)) (listed.setIfInBounds i true) a' w'):=by
    intro i o an to v N ei hin ho hun hed h2 h3 h4 h5 k3
    have hil:i < ops.size:=(Array.getElem?_eq_some_iff.1 ho).1
    have hget':∀ j,(listed.setIfInBounds i true).getD j false=true ↔ listed.getD j false=true∨j=i:=fun j=>by
     by_cases hij:i=j
     ·subst hij
      have:i < listed.size:=by rw [hsz];exact hil
      simp [this]
     ·rw [getD_set_ne false hij]
      exact ⟨.inl,fun h=>h.resolve_right fun hh=>hij hh.symm⟩
    have hne':∀ j,j ≠ i→(listed.setIfInBounds i true).getD j false=listed.getD j false:=fun j hj=>getD_set_ne false (Ne.symm hj)
    refine ⟨hget',fun t ht=>?_,fun t=>?_,fun a' w' I' μ' hmi'=>?_⟩
    ·rw [k3 t,valS_take]
     refine valS_congr fun j u hj=>?_
     rw [Nat.zero_add]
     obtain ⟨hjn,tj,g1,g2,g3⟩:=hD j _ _ hj
     obtain ⟨q1,q2⟩:=(F.head i o to j tj t hin ho h2 hjn g1 g2).1 ht
     rw [hed j q2]
     simpa using F.edge i o ho j q2
    ·by_cases hdt:to.dst=some t
     ·rw [if_pos hdt]
      refine valS_one _ (i:=i) (by rw [← hdt];exact hDi i an to v h3 h4) ((hget' i).2 (.inr rfl)) fun j u hj=>?_
      obtain ⟨hjn,tj,g1,g2,g3⟩:=hD j _ _ hj
      exact (F.head i o to j tj t hin ho h2 hjn g1 g2).2 hdt
     ·rw [if_neg hdt]
      refine valS_congr fun j u hj=>?_
      rw [Nat.zero_add]
      refine hne' j fun hji=>hdt ?_
      subst hji
      obtain ⟨hjn,tj,g1,g2,g3⟩:=hD j _ _ hj
      rw [h2] at g1;cases g1
      exact g2
    ·refine ih (listed.setIfInBounds i true) (by simpa using hsz) (fun j hj=>?_) (fun j oj hoj hj k hk=>?_) ?_ w' I' μ' a' hmi'
     ·rw [hne' j (by omega)];exact hltl j hj
     ·refine (hget' k).2 (.inl ?_)
      rcases (hget' j).1 hj with g | g
      ·exact hcl j oj hoj g k hk
      ·subst g;rw [ho] at hoj;cases hoj;exact hed k hk
     ·have:=countP_unset (p:=fun j=>!listed.getD j false) (p':=fun j=>!(listed.setIfInBounds i true).getD j false) hin (by simp only [hun,Bool.not_false]) (fun j=>by
       by_cases hji:j=i
       ·subst hji
        have:(listed.setIfInBounds j true).getD j false=true:=(hget' j).2 (.inr rfl)
        simp only [this];simp
       ·simp only [hne' j hji]
        have:(j != i)=true:=by simpa using hji
        simp [this])
      omega
   -- a float that is ready comes up at once
   by_cases hflo:∃ i ∈ Region.ready .any ops listed,i < n∧∃ to,tos[i]?=some to∧isFloat to=true∧Region.noSelect ops=true∧floatOk ops i=true
   ·obtain ⟨i,hr,hin,to,h2,hfl,hns,hfo⟩:=hflo
    obtain ⟨o,ho,hun,hed,han,_⟩:=hready i hr
    obtain ⟨an,to',v,N,h1,h2',h3,h4,h5⟩:=hl i hin
    rw [h2] at h2';cases h2'
    obtain ⟨v',N',ei,k1,k2,k3,k4⟩:=r5 i an to h3
    rw [h4] at k1;cases k1
    rw [h5] at k2;cases k2
    obtain ⟨x1,x2,x3,x4⟩:=next i o an to v N ei hin ho hun hed h2 h3 h4 h5 k3
    have hto:TrO P nt ops o to:=hts.get (by simpa using ho) h2
    obtain ⟨vv,y1,y2⟩:=hmi.float (S:=S) (sel':=fun j=>(listed.setIfInBounds i true).getD j false) ho hto hfl h5 hun x2 k4 x1 x3
    refine wpAny_first ho (Region.noSelect_spec hns) (fun c a' w' h=>absurd h (hQp c _ _)) _ listed a1 w1 (fun j oj hoj hji hjun hno=>?_) hr y1 (x4 _ _ _ _ y2)
    have hjl:j < ops.size:=(Array.getElem?_eq_some_iff.1 hoj).1
    unfold floatOk at hfo
    rw [ho] at hfo
    simp only [List.all_eq_true,List.mem_range] at hfo
    have:=hfo j hjl
    rw [hoj] at this
    simp only [Bool.or_eq_true,beq_iff_eq,List.contains_iff_mem] at this
    rcases this with g | (g | g) | g
    ·exact absurd g hji
    ·exfalso
     unfold edges at g
     rw [List.mem_map] at g
     obtain ⟨ed,q1,q2⟩:=g
     rw [List.mem_filter] at q1
     exact hno ed (by simpa using q1.1) q1.2 q2
    ·exfalso
     have:=hed j g
     rw [hgd j true hjl,this] at hjun
     cases hjun
    ·exact g
   have hready':∀ i ∈ Region.ready .any ops listed,∃ o,ops[i]?=some o∧listed.getD i false=false∧(∀ k ∈ edges o,listed.getD k false=true)∧(∀ b ∈ ancs.getD i [],listed.getD b false=true)∧i < n:=fun i hr=>by
    obtain ⟨o,g1,g2,g3,g4,g5⟩:=hready i hr
    refine ⟨o,g1,g2,g3,g4,?_⟩
    rcases g5 with g5 | g5
    ·exact g5
    ·exfalso
     obtain ⟨j,q1,q2⟩:=hex
     obtain ⟨i',p1,p2,p3⟩:=least j q1 q2
     exact hflo ⟨i',p1,p2,g5 i' p2 p3⟩
   refine ⟨fun h0=>?_,fun i hr=>?_⟩
   ·-- the least that is not listed is ready
    exfalso
    obtain ⟨j,g1,g2⟩:=hex
    obtain ⟨i,hi',_⟩:=least j g1 g2
    rw [h0] at hi'
    cases hi'
   ·obtain ⟨o,ho,hun,hed,han,hin⟩:=hready' i hr
    obtain ⟨an,to,v,N,h1,h2,h3,h4,h5⟩:=hl i hin
    obtain ⟨v',N',ei,k1,k2,k3,k4⟩:=r5 i an to h3
    rw [h4] at k1;cases k1
    rw [h5] at k2;cases k2
    obtain ⟨x1,x2,x3,x4⟩:=next i o an to v N ei hin ho hun hed h2 h3 h4 h5 k3
    have hto:TrO P nt ops o to:=hts.get (by simpa using ho) h2
    have hanE:ancs.getD i []=an:=by rw [List.getD_eq_getElem?_getD,h1];rfl
    exact hmi.step (sel':=fun j=>(listed.setIfInBounds i true).getD j false) (val':=fun t=>valS (fun j=>(listed.setIfInBounds i true).getD j false) t 0 (dvs ((ancs.zip tos).take n) R) (get e t)) hS ho hto h5 hun (fun j hj=>han j (by rw [hanE];exact hj)) x2 k4 x1 x3 x4
 refine wp_region_any hm (hp Q a w.drew ?_)
 have hr0:(Array.replicate ops.size false).size=ops.size:=by simp
 have hgf:∀ j,(Array.replicate ops.size false).getD j false=false:=fun j=>by
  rw [Array.getD_eq_getD_getElem?,Array.getElem?_replicate]
  split <;> rfl
 have hcnt:(List.range n).countP (fun j=>!(Array.replicate ops.size false).getD j false)=n:=by
  have:(List.range n).countP (fun j=>!(Array.replicate ops.size false).getD j false)=(List.range n).length:=List.countP_eq_length.2 fun j _=>by rw [hgf j];rfl
  rw [this];simp
 have hfin:=key n (Array.replicate ops.size false) hr0 (fun j _=>hgf j) (fun j o _ hj=>by rw [hgf j] at hj;cases hj) hcnt w.drew I μ a ?_
 ·rw [show n+(ops.size - n)=ops.size by have:=F.len;omega] at hfin
  exact hfin
 ·have hx:=Ext.drew w
  have hrd:HR w.drew I μ (look H):=hi.hr.ext hx (fun _ _ h=>h) (fun _ _ h=>.inl h) hi.hr.lt.lt
  have hsub:∀ id sz l,look (H++maskS (fun j=>(Array.replicate ops.size false).getD j false) 0 Ns) id=.live sz l→look H id=.live sz l:=fun id sz l hl=>by
   by_cases hid:id < H.length
   ·rw [look_mask_old hid] at hl;exact hl
   ·exfalso
    rw [look_mask_new (by omega),List.getD_eq_getElem?_getD] at hl
    cases hq:(maskS (fun j=>(Array.replicate ops.size false).getD j false) 0 Ns)[id - H.length]? with
    | none=>rw [hq] at hl;cases hl
    | some b=>rw [hq] at hl;simp at hl;subst hl;exact maskS_dead hgf hq
  obtain ⟨q1,q2⟩:=hrd.sub hsub
  refine ⟨⟨hx.step _,fun _ _ h=>h,fun _ _ h=>.inl (.inl h),Mu.le_refl _,fun b k h=>.inl (q2 b k h)⟩,q1,fun id hne=>.inl ?_,fun t=>?_,hi.size,hi.defers⟩
  ·rcases Nat.lt_or_ge id H.length with h | h
   ·exact h
   ·exact absurd (hi.dom id h) hne
  ·rw [valS_none fun j v _=>by rw [Nat.zero_add];exact hgf j]
   exact (hi.env t).mono (hx.same I) (fun _ _ h=>h) _ (Mu.le_refl _)
end
end Go.Proofs.TM
