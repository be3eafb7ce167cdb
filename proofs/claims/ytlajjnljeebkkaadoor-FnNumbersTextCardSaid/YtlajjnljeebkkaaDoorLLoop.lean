import Derived.Test.YtlajjnljeebkkaaDoorTFun
namespace Go.Proofs.TM
open Go Go.Proofs
theorem loop_some {σ ρ:Type} {f:σ→Option (σ ⊕ ρ)} {r:ρ} (n:Nat) (I:Nat→σ→Prop)
  (h:∀ i s,i≤n→I i s→f s=some (.inr r)∨(i<n∧∃ s',f s=some (.inl s')∧I (i+1) s')) :
  ∀ k i s,k+i=n→I i s→loopO f s=some r:=by
 intro k
 induction k with
 |zero =>
  intro i s hi hs
  rcases h i s (by omega) hs with h1 |⟨h1,_⟩
  ·rw[loopO_unfold,h1];rfl
  ·omega
 |succ k ih =>
  intro i s hi hs
  rcases h i s (by omega) hs with h1 |⟨h1,s',h2,h3⟩
  ·rw[loopO_unfold,h1];rfl
  ·rw[loopO_unfold,h2];exact ih (i+1) s' (by omega) h3
theorem loop_ex {σ ρ:Type} {f:σ→Option (σ ⊕ ρ)} (P:ρ→Prop) (n:Nat) (I:Nat→σ→Prop)
  (h:∀ i s,i≤n→I i s→(∃ r,f s=some (.inr r)∧P r)∨(i<n∧∃ s',f s=some (.inl s')∧I (i+1) s')) :
  ∀ k i s,k+i=n→I i s→∃ r,loopO f s=some r∧P r:=by
 intro k
 induction k with
 |zero =>
  intro i s hi hs
  rcases h i s (by omega) hs with ⟨r,h1,hp⟩ |⟨h1,_⟩
  ·exact⟨r,by rw[loopO_unfold,h1];rfl,hp⟩
  ·omega
 |succ k ih =>
  intro i s hi hs
  rcases h i s (by omega) hs with ⟨r,h1,hp⟩ |⟨h1,s',h2,h3⟩
  ·exact⟨r,by rw[loopO_unfold,h1];rfl,hp⟩
  ·obtain⟨r,hr,hp⟩:=ih (i+1) s' (by omega) h3
   exact⟨r,by rw[loopO_unfold,h2];exact hr,hp⟩
open Classical in
theorem loop_all {ρ:Type} (n:Nat) (p:Nat→Prop) (f:Int→Option (Int ⊕ ρ)) (rT rF:ρ)
  (h1:∀ i:Nat,i<n→p i→f (i:Int)=some (.inl ((i:Int)+1)))
  (h2:∀ i:Nat,i<n→¬p i→f (i:Int)=some (.inr rF))
  (h3:f (n:Int)=some (.inr rT)):loopO f 0=some (if ∀ i,i<n→p i then rT else rF):=by
 by_cases hp:∀ i,i<n→p i
 ·rw[if_pos hp]
  refine loop_some n (fun i s=>s=(i:Int)) (fun i s hi hs=>?_) n 0 0 (by omega) rfl
  subst hs
  by_cases hn:i<n
  ·exact .inr ⟨hn,_,h1 i hn (hp i hn),by omega⟩
  ·have:i=n:=by omega
   subst this;exact .inl h3
 ·rw[if_neg hp]
  refine loop_some n (fun i s=>s=(i:Int)∧∀ j,j<i→p j) (fun i s hi hs=>?_) n 0 0 (by omega) ⟨rfl,fun j hj=>by omega⟩
  obtain⟨rfl,hall⟩:=hs
  by_cases hn:i<n
  ·by_cases hpi:p i
   ·refine .inr ⟨hn,_,h1 i hn hpi,by omega,fun j hj=>?_⟩
    by_cases hji:j=i
    ·subst hji;exact hpi
    ·exact hall j (by omega)
   ·exact .inl (h2 i hn hpi)
  ·have:i=n:=by omega
   subst this;exact absurd hall hp
theorem all_get {α:Type} {l:List α} {P:α→Prop}:(∀ i,i<l.length→∀ x,l[i]?=some x→P x)↔∀ x∈l,P x:=by
 constructor
 ·intro h x hx
  obtain⟨i,hi,rfl⟩:=List.mem_iff_getElem.1 hx
  exact h i hi _ (List.getElem?_eq_getElem hi)
 ·intro h i hi x hx
  exact h x (List.mem_of_getElem? hx)
open Classical in
theorem loop_mem {α ρ:Type} (l:List α) (p:α→Prop) (f:Int→Option (Int ⊕ ρ)) (rT rF:ρ)
  (h1:∀ (i:Nat) x,i<l.length→l[i]?=some x→p x→f (i:Int)=some (.inl ((i:Int)+1)))
  (h2:∀ (i:Nat) x,i<l.length→l[i]?=some x→¬p x→f (i:Int)=some (.inr rF))
  (h3:f (l.length:Int)=some (.inr rT)):loopO f 0=some (if ∀ x∈l,p x then rT else rF):=by
 rw[loop_all l.length (fun i=>∀ x,l[i]?=some x→p x) f rT rF ?_ ?_ h3]
 ·simp only[all_get]
 ·intro i hi hp
  obtain⟨x,hx⟩:∃ x,l[i]?=some x:=⟨_,List.getElem?_eq_getElem hi⟩
  exact h1 i x hi hx (hp x hx)
 ·intro i hi hp
  obtain⟨x,hx⟩:∃ x,l[i]?=some x:=⟨_,List.getElem?_eq_getElem hi⟩
  exact h2 i x hi hx (fun h=>hp (fun y hy=>by rw[hx] at hy;cases hy;exact h))
theorem loop_find {α ρ:Type} (l:List α) (p:α→Prop) (f:Int→Option (Int ⊕ (ρ ⊕ Int))) (rT:ρ)
  (h1:∀ (i:Nat) x,i<l.length→l[i]?=some x→p x→f (i:Int)=some (.inl ((i:Int)+1)))
  (h2:∀ (i:Nat) x,i<l.length→l[i]?=some x→¬p x→f (i:Int)=some (.inr (.inr (i:Int))))
  (h3:f (l.length:Int)=some (.inr (.inl rT))) :
  ∃ r,loopO f 0=some r∧((r=.inl rT∧∀ x∈l,p x)∨(∃ k:Int,r=.inr k∧0≤k∧¬∀ x∈l,p x)):=by
 refine loop_ex _ l.length (fun i s=>s=(i:Int)∧∀ j,j<i→∀ x,l[j]?=some x→p x) (fun i s hi hs=>?_) l.length 0 0 (by omega) ⟨rfl,fun j hj=>by omega⟩
 obtain⟨rfl,hall⟩:=hs
 by_cases hn:i<l.length
 ·obtain⟨x,hx⟩:∃ x,l[i]?=some x:=⟨_,List.getElem?_eq_getElem hn⟩
  by_cases hpi:p x
  ·refine .inr ⟨hn,_,h1 i x hn hx hpi,by omega,fun j hj y hy=>?_⟩
   by_cases hji:j=i
   ·subst hji;rw[hx] at hy;cases hy;exact hpi
   ·exact hall j (by omega) y hy
  ·refine .inl ⟨_,h2 i x hn hx hpi,.inr ⟨i,rfl,by omega,fun h=>hpi (h x (List.mem_of_getElem? hx))⟩⟩
 ·have:i=l.length:=by omega
  subst this
  exact .inl ⟨_,h3,.inl ⟨rfl,all_get.1 hall⟩⟩
open Classical in
theorem loop_eq {α ρ:Type} (l m:List α) (hl:l.length=m.length) (f:Int→Option (Int ⊕ ρ)) (rT rF:ρ)
  (h1:∀ (i:Nat) x,i<l.length→l[i]?=some x→m[i]?=some x→f (i:Int)=some (.inl ((i:Int)+1)))
  (h2:∀ (i:Nat) x y,i<l.length→l[i]?=some x→m[i]?=some y→¬x=y→f (i:Int)=some (.inr rF))
  (h3:f (l.length:Int)=some (.inr rT)):loopO f 0=some (if l=m then rT else rF):=by
 rw[loop_all l.length (fun i=>l[i]?=m[i]?) f rT rF ?_ ?_ h3]
 ·have:(∀ i,i<l.length→l[i]?=m[i]?)↔l=m:=by
   constructor
   ·intro h
    apply List.ext_getElem?
    intro j
    by_cases hj:j<l.length
    ·exact h j hj
    ·rw[List.getElem?_eq_none (by omega),List.getElem?_eq_none (by omega)]
   ·rintro rfl i hi;rfl
  simp only[this]
 ·intro i hi hp
  obtain⟨x,hx⟩:∃ x,l[i]?=some x:=⟨_,List.getElem?_eq_getElem hi⟩
  exact h1 i x hi hx (by rw[← hp,hx])
 ·intro i hi hp
  obtain⟨x,hx⟩:∃ x,l[i]?=some x:=⟨_,List.getElem?_eq_getElem hi⟩
  obtain⟨y,hy⟩:∃ y,m[i]?=some y:=⟨_,List.getElem?_eq_getElem (by omega)⟩
  exact h2 i x y hi hx hy (fun h=>hp (by rw[hx,hy,h]))
theorem wrap_in {n:Int} (h:-9223372036854775808≤n) (h':n≤9223372036854775807):IntKind.i64.wrap n=n:=by rw[IntKind.wrap_i64];omega
theorem get_at {α:Type} {l:List α} {i:Nat} (h:i<l.length):∃ x,l[i]?=some x:=⟨_,List.getElem?_eq_getElem h⟩
end Go.Proofs.TM
