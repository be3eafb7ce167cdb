import Derived.Test.YtfbolaoobodmoaaGreatTFun
import Derived.Test.YtfbolaoobodmoaaGreatSX3
import Derived.Test.YtfbolaoobodmoaaGreatTGlue
import Derived.Test.YtfbolaoobodmoaaGreatTReadR
namespace Go.Proofs.TM
open Go Go.Proofs
theorem loop_some {σ ρ:Type} {f:σ→Option (σ ⊕ ρ)} {r:ρ} (n:Nat) (I:Nat→σ→Prop)
  (h:∀ i s,i≤n→I i s→f s=some (.inr r)∨(i<n∧∃ s',f s=some (.inl s')∧I (i+1) s')) :
  ∀ k i s,k+i=n→I i s→loopO f s=some r:=by
 intro k
 induction k with
 |zero =>
  intro i s hi hs
  rcases h i s (by omega) hs with h1 |⟨h1,_⟩
  ·rw[loopO_unfold,h1];rfl
  ·omega
 |succ k ih =>
  intro i s hi hs
  rcases h i s (by omega) hs with h1 |⟨h1,s',h2,h3⟩
  ·rw[loopO_unfold,h1];rfl
  ·rw[loopO_unfold,h2];exact ih (i+1) s' (by omega) h3
theorem loop_ex {σ ρ:Type} {f:σ→Option (σ ⊕ ρ)} (P:ρ→Prop) (n:Nat) (I:Nat→σ→Prop)
  (h:∀ i s,i≤n→I i s→(∃ r,f s=some (.inr r)∧P r)∨(i<n∧∃ s',f s=some (.inl s')∧I (i+1) s')) :
  ∀ k i s,k+i=n→I i s→∃ r,loopO f s=some r∧P r:=by
 intro k
 induction k with
 |zero =>
  intro i s hi hs
  rcases h i s (by omega) hs with ⟨r,h1,hp⟩ |⟨h1,_⟩
  ·exact⟨r,by rw[loopO_unfold,h1];rfl,hp⟩
  ·omega
 |succ k ih =>
  intro i s hi hs
  rcases h i s (by omega) hs with ⟨r,h1,hp⟩ |⟨h1,s',h2,h3⟩
  ·exact⟨r,by rw[loopO_unfold,h1];rfl,hp⟩
  ·obtain⟨r,hr,hp⟩:=ih (i+1) s' (by omega) h3
   exact⟨r,by rw[loopO_unfold,h2];exact hr,hp⟩
open Classical in
theorem loop_all {ρ:Type} (n:Nat) (p:Nat→Prop) (f:Int→Option (Int ⊕ ρ)) (rT rF:ρ)
  (h1:∀ i:Nat,i<n→p i→f (i:Int)=some (.inl ((i:Int)+1)))
  (h2:∀ i:Nat,i<n→¬p i→f (i:Int)=some (.inr rF))
  (h3:f (n:Int)=some (.inr rT)):loopO f 0=some (if ∀ i,i<n→p i then rT else rF):=by
 by_cases hp:∀ i,i<n→p i
 ·rw[if_pos hp]
  refine loop_some n (fun i s=>s=(i:Int)) (fun i s hi hs=>?_) n 0 0 (by omega) rfl
  subst hs
  by_cases hn:i<n
  ·exact .inr ⟨hn,_,h1 i hn (hp i hn),by omega⟩
  ·have:i=n:=by omega
   subst this;exact .inl h3
 ·rw[if_neg hp]
  refine loop_some n (fun i s=>s=(i:Int)∧∀ j,j<i→p j) (fun i s hi hs=>?_) n 0 0 (by omega) ⟨rfl,fun j hj=>by omega⟩
  obtain⟨rfl,hall⟩:=hs
  by_cases hn:i<n
  ·by_cases hpi:p i
   ·refine .inr ⟨hn,_,h1 i hn hpi,by omega,fun j hj=>?_⟩
    by_cases hji:j=i
    ·subst hji;exact hpi
    ·exact hall j (by omega)
   ·exact .inl (h2 i hn hpi)
  ·have:i=n:=by omega
   subst this;exact absurd hall hp
theorem all_get {α:Type} {l:List α} {P:α→Prop}:(∀ i,i<l.length→∀ x,l[i]?=some x→P x)↔∀ x∈l,P x:=by
 constructor
 ·intro h x hx
  obtain⟨i,hi,rfl⟩:=List.mem_iff_getElem.1 hx
  exact h i hi _ (List.getElem?_eq_getElem hi)
 ·intro h i hi x hx
  exact h x (List.mem_of_getElem? hx)
open Classical in
theorem loop_mem {α ρ:Type} (l:List α) (p:α→Prop) (f:Int→Option (Int ⊕ ρ)) (rT rF:ρ)
  (h1:∀ (i:Nat) x,i<l.length→l[i]?=some x→p x→f (i:Int)=some (.inl ((i:Int)+1)))
  (h2:∀ (i:Nat) x,i<l.length→l[i]?=some x→¬p x→f (i:Int)=some (.inr rF))
  (h3:f (l.length:Int)=some (.inr rT)):loopO f 0=some (if ∀ x∈l,p x then rT else rF):=by
 rw[loop_all l.length (fun i=>∀ x,l[i]?=some x→p x) f rT rF ?_ ?_ h3]
 ·simp only[all_get]
 ·intro i hi hp
  obtain⟨x,hx⟩:∃ x,l[i]?=some x:=⟨_,List.getElem?_eq_getElem hi⟩
  exact h1 i x hi hx (hp x hx)
 ·intro i hi hp
  obtain⟨x,hx⟩:∃ x,l[i]?=some x:=⟨_,List.getElem?_eq_getElem hi⟩
  exact h2 i x hi hx (fun h=>hp (fun y hy=>by rw[hx] at hy;cases hy;exact h))
theorem loop_find {α ρ:Type} (l:List α) (p:α→Prop) (f:Int→Option (Int ⊕ (ρ ⊕ Int))) (rT:ρ)
  (h1:∀ (i:Nat) x,i<l.length→l[i]?=some x→p x→f (i:Int)=some (.inl ((i:Int)+1)))
  (h2:∀ (i:Nat) x,i<l.length→l[i]?=some x→¬p x→f (i:Int)=some (.inr (.inr (i:Int))))
  (h3:f (l.length:Int)=some (.inr (.inl rT))) :
  ∃ r,loopO f 0=some r∧((r=.inl rT∧∀ x∈l,p x)∨(∃ k:Int,r=.inr k∧0≤k∧¬∀ x∈l,p x)):=by
 refine loop_ex _ l.length (fun i s=>s=(i:Int)∧∀ j,j<i→∀ x,l[j]?=some x→p x) (fun i s hi hs=>?_) l.length 0 0 (by omega) ⟨rfl,fun j hj=>by omega⟩
 obtain⟨rfl,hall⟩:=hs
 by_cases hn:i<l.length
 ·obtain⟨x,hx⟩:∃ x,l[i]?=some x:=⟨_,List.getElem?_eq_getElem hn⟩
  by_cases hpi:p x
  ·refine .inr ⟨hn,_,h1 i x hn hx hpi,by omega,fun j hj y hy=>?_⟩
   by_cases hji:j=i
   ·subst hji;rw[hx] at hy;cases hy;exact hpi
   ·exact hall j (by omega) y hy
  ·refine .inl ⟨_,h2 i x hn hx hpi,.inr ⟨i,rfl,by omega,fun h=>hpi (h x (List.mem_of_getElem? hx))⟩⟩
 ·have:i=l.length:=by omega
  subst this
  exact .inl ⟨_,h3,.inl ⟨rfl,all_get.1 hall⟩⟩
theorem wrap_in {n:Int} (h:-9223372036854775808≤n) (h':n≤9223372036854775807):IntKind.i64.wrap n=n:=by rw[IntKind.wrap_i64];omega
theorem get_at {α:Type} {l:List α} {i:Nat} (h:i<l.length):∃ x,l[i]?=some x:=⟨_,List.getElem?_eq_getElem h⟩
theorem mkL_ok {α:Type} (bs n:Nat) (z:α) (h:n*bs≤maxRow) (h':n≤maxRow):mkL bs (n:Int) (n:Int) z=some (List.replicate n z):=by
 unfold mkL;rw[if_pos ⟨by omega,rfl,by simpa using h,by simpa using h'⟩];simp
theorem appL_nil {α:Type} (bs:Nat) (l:List α) (h:l.length*(bs+1)≤maxRow):appL bs [] l=some l:=by
 unfold appL;rw[if_pos (by simpa using h)];simp
theorem loopO_inl {σ ρ:Type} {f:σ→Option (σ ⊕ ρ)} {s s':σ} (h:f s=some (.inl s')):loopO f s=loopO f s':=by rw[loopO_unfold,h];rfl
theorem loopO_inr {σ ρ:Type} {f:σ→Option (σ ⊕ ρ)} {s:σ} {r:ρ} (h:f s=some (.inr r)):loopO f s=some r:=by rw[loopO_unfold,h];rfl
abbrev DDisk:=List Str×List (Int×Str)×Int×Bool
abbrev DSuper:=Int×Int×Int×Int
theorem w1 {i:Nat} (h:i<9223372036854775807):IntKind.i64.wrap ((i:Int)+1)=(i:Int)+1:=wrap_in (by omega) (by omega)
theorem dF {Q:Prop} {d:Decidable Q} (h:¬Q):some false=some (@decide Q d):=by rw[decide_eq_false h]
theorem dT {Q:Prop} {d:Decidable Q} (h:Q):some true=some (@decide Q d):=by rw[decide_eq_true h]
theorem dI {P Q:Prop} {d:Decidable P} {d':Decidable Q} (h:P↔Q):some (@decide P d)=some (@decide Q d'):=by
 by_cases hp:P
 ·rw[decide_eq_true hp,decide_eq_true (h.1 hp)]
 ·rw[decide_eq_false hp,decide_eq_false (fun q=>hp (h.2 q))]
theorem deq {p:Prop} {d:Decidable p}:(@decide p d=true)=p:=by simp
theorem bind_some' {α:Type} (x:Option α):(x.bind fun r=>some r)=x:=by cases x <;> rfl
theorem subL_from {α:Type} (s:List α) (k:Nat) (h:k≤s.length):subL s (some (k:Int)) none=some (s.drop k):=by
 simp[subL,bound,h]
theorem subL_to {α:Type} (s:List α) (k:Nat) (h:k≤s.length):subL s none (some (k:Int))=some (s.take k):=by
 simp[subL,bound,h]
theorem subL_mid {α:Type} (s:List α) (a b:Nat) (h:a≤b) (h':b≤s.length):subL s (some (a:Int)) (some (b:Int))=some ((s.take b).drop a):=by
 simp[subL,bound,h,h']
theorem map_v (l:Str):(l.map Bt.mk).map Bt.v=l:=by
 rw[List.map_map]
 have:(Bt.v ∘ Bt.mk)=id:=rfl
 rw[this,List.map_id]
theorem l00In_out (n a b:Int):spec_l00In n a b=some (decide (a≤n∧n≤b)):=by
 unfold spec_l00In;by_cases h:n≥a
 ·rw[if_pos h];have:a≤n:=h;simp[this]
 ·rw[if_neg h];have:¬a≤n:=h;simp[this]
theorem within_out (n a b:Int):impl_within n a b=some (decide (a≤n∧n≤b)):=l00In_out n a b
def DiskV (d:DDisk):Prop:=16≤(d.1.length:Int)∧(d.1.length:Int)≤256∧(d.2.1.length:Int)≤600∧-1≤d.2.2.1∧d.2.2.1≤100000∧(∀ x∈d.1,x.length=64)∧∀ p∈d.2.1,0≤p.1∧p.1≤(d.1.length:Int)-1∧p.2.length=64
open Classical in
theorem l09Ok_out (d:DDisk):spec_l09Ok d=some (decide (DiskV d)):=by
 unfold spec_l09Ok
 rw[l00In_out,obs]
 by_cases h1:16≤(d.1.length:Int)∧(d.1.length:Int)≤256
 case neg=>rw[if_pos (by simp[h1])];exact dF fun h=>h1 ⟨h.1,h.2.1⟩
 rw[if_neg (by simp[h1])]
 by_cases h2:(d.2.1.length:Int)>600
 case pos=>rw[if_pos h2];exact dF fun h=>by have:=h.2.2.1;omega
 rw[if_neg h2,l00In_out,obs]
 by_cases h3:-1≤d.2.2.1∧d.2.2.1≤100000
 case neg=>rw[if_pos (by simp[h3])];exact dF fun h=>h3 ⟨h.2.2.2.1,h.2.2.2.2.1⟩
 rw[if_neg (by simp[h3])]
 unfold spec_l09Ok_l1
 rw[loop_mem d.1 (fun x=>x.length=64) (fun s=>spec_l09Ok_l1_b d.1 d.2.1 d.2.2.1 d.2.2.2 d.1.length s) (.inl (d.1,d.2.1,d.2.2.1,d.2.2.2,(d.1.length:Int))) (.inr false) (fun i x hi hx hp=>by
   have hx':=(List.getElem?_eq_some_iff.1 hx).2
   have hp':(x.length:Int)=64:=by omega
   simp[spec_l09Ok_l1_b,hi,hx',hp',w1 (show i<9223372036854775807 by omega)]) (fun i x hi hx hp=>by
   have hx':=(List.getElem?_eq_some_iff.1 hx).2
   have hp':¬(x.length:Int)=64:=by omega
   simp[spec_l09Ok_l1_b,hi,hx',hp']) (by simp[spec_l09Ok_l1_b])]
 by_cases h4:∀ x∈d.1,x.length=64
 case neg=>rw[if_neg h4];exact dF fun h=>h4 h.2.2.2.2.2.1
 rw[if_pos h4]
 simp only[obs,Sum.elim_inl]
 unfold spec_l09Ok_l2
 rw[loop_mem d.2.1 (fun p=>0≤p.1∧p.1≤(d.1.length:Int)-1∧p.2.length=64) (fun s=>spec_l09Ok_l2_b d.1 d.2.1 d.2.2.1 d.2.2.2 d.1.length s) (.inl ()) (.inr false) (fun i x hi hx hp=>by
   have hx':=(List.getElem?_eq_some_iff.1 hx).2
   have hp':(x.2.length:Int)=64:=by omega
   simp[spec_l09Ok_l2_b,hi,hx',hp',hp.1,hp.2.1,l00In_out,wrap_in (show -9223372036854775808≤(d.1.length:Int)-1 by omega) (by omega),w1 (show i<9223372036854775807 by omega)]) (fun i x hi hx hp=>by
   have hx':=(List.getElem?_eq_some_iff.1 hx).2
   simp[spec_l09Ok_l2_b,hi,hx',l00In_out,wrap_in (show -9223372036854775808≤(d.1.length:Int)-1 by omega) (by omega)]
   by_cases hq:0≤x.1∧x.1≤(d.1.length:Int)-1
   ·have hp':¬(x.2.length:Int)=64:=fun h=>hp ⟨hq.1,hq.2,by omega⟩
    simp[hq.1,hq.2,hp']
   ·intro a b;exact absurd ⟨a,b⟩ hq) (by simp[spec_l09Ok_l2_b])]
 by_cases h5:∀ p∈d.2.1,0≤p.1∧p.1≤(d.1.length:Int)-1∧p.2.length=64
 ·rw[if_pos h5];exact dT ⟨h1.1,h1.2,by omega,h3.1,h3.2,h4,h5⟩
 ·rw[if_neg h5];exact dF fun h=>h5 h.2.2.2.2.2.2
open Classical in
theorem ValidDisk_out (d:DDisk):impl_ValidDisk d=some (decide (DiskV d)):=by
 unfold impl_ValidDisk
 rw[within_out,obs]
 by_cases h1:16≤(d.1.length:Int)∧(d.1.length:Int)≤256
 case neg=>rw[if_pos (by simp[h1])];exact dF fun h=>h1 ⟨h.1,h.2.1⟩
 rw[if_neg (by simp[h1])]
 by_cases h2:(d.2.1.length:Int)>600
 case pos=>rw[if_pos h2];exact dF fun h=>by have:=h.2.2.1;omega
 rw[if_neg h2,within_out,obs]
 by_cases h3:-1≤d.2.2.1∧d.2.2.1≤100000
 case neg=>rw[if_pos (by simp[h3])];exact dF fun h=>h3 ⟨h.2.2.2.1,h.2.2.2.2.1⟩
 rw[if_neg (by simp[h3])]
 unfold slices_ContainsFunc_string_string__ValidDisk_c1 slices_IndexFunc_string_string__ValidDisk_c1 slices_IndexFunc_string_string__ValidDisk_c1_l1
 obtain⟨r,hr,hx⟩:=loop_find d.1 (fun x=>x.length=64) (fun s=>slices_IndexFunc_string_string__ValidDisk_c1_l1_b d.1 d.1.length s) () (fun i x hi hx hp=>by
   have hx':=(List.getElem?_eq_some_iff.1 hx).2
   have hp':(x.length:Int)=64:=by omega
   simp[slices_IndexFunc_string_string__ValidDisk_c1_l1_b,impl_ValidDisk_c1,impl_isBlock,hi,hx',hp',w1 (show i<9223372036854775807 by omega)]) (fun i x hi hx hp=>by
   have hx':=(List.getElem?_eq_some_iff.1 hx).2
   have hp':¬(x.length:Int)=64:=by omega
   simp[slices_IndexFunc_string_string__ValidDisk_c1_l1_b,impl_ValidDisk_c1,impl_isBlock,hi,hx',hp']) (by simp[slices_IndexFunc_string_string__ValidDisk_c1_l1_b])
 rw[hr]
 rcases hx with ⟨rfl,h4⟩ |⟨k,rfl,hk,h4⟩
 case inr=>simp[hk];exact fun h=>h4 h.2.2.2.2.2.1
 simp only[obs,Sum.elim_inl]
 rw[if_neg (by simp)]
 unfold slices_ContainsFunc_impl_Put_impl_Put__ValidDisk_c2 slices_IndexFunc_impl_Put_impl_Put__ValidDisk_c2 slices_IndexFunc_impl_Put_impl_Put__ValidDisk_c2_l1
 obtain⟨r,hr,hx⟩:=loop_find d.2.1 (fun p=>0≤p.1∧p.1≤(d.1.length:Int)-1∧p.2.length=64) (fun s=>slices_IndexFunc_impl_Put_impl_Put__ValidDisk_c2_l1_b d.2.1 d.1 d.2.1 d.2.2.1 d.2.2.2 d.2.1.length s) () (fun i x hi hx hp=>by
   have hx':=(List.getElem?_eq_some_iff.1 hx).2
   have hp':(x.2.length:Int)=64:=by omega
   simp[slices_IndexFunc_impl_Put_impl_Put__ValidDisk_c2_l1_b,impl_ValidDisk_c2,impl_isIndex,within_out,impl_isBlock,hi,hx',hp',hp.1,hp.2.1,wrap_in (show -9223372036854775808≤(d.1.length:Int)-1 by omega) (by omega),w1 (show i<9223372036854775807 by omega)]) (fun i x hi hx hp=>by
   have hx':=(List.getElem?_eq_some_iff.1 hx).2
   simp[slices_IndexFunc_impl_Put_impl_Put__ValidDisk_c2_l1_b,impl_ValidDisk_c2,impl_isIndex,within_out,impl_isBlock,hi,hx',wrap_in (show -9223372036854775808≤(d.1.length:Int)-1 by omega) (by omega)]
   by_cases hq:0≤x.1∧x.1≤(d.1.length:Int)-1
   ·have hp':¬(x.2.length:Int)=64:=fun h=>hp ⟨hq.1,hq.2,by omega⟩
    simp[hq.1,hq.2,hp']
   ·intro a b;exact absurd ⟨a,b⟩ hq) (by simp[slices_IndexFunc_impl_Put_impl_Put__ValidDisk_c2_l1_b])
 rw[hr]
 rcases hx with ⟨rfl,h5⟩ |⟨k,rfl,hk,h5⟩
 ·simp;exact⟨h1.1,h1.2,by omega,h3.1,h3.2,h4,h5⟩
 ·simp[hk];exact fun h=>h5 h.2.2.2.2.2.2
def SuperV (s:DSuper):Prop:=16≤s.1∧s.1≤256∧8≤s.2.1∧s.2.1≤64∧s.2.1≤s.1-4∧0≤s.2.2.1∧s.2.2.1≤1000000000000∧0≤s.2.2.2∧s.2.2.2≤1000000000000
open Classical in
theorem sValidSuper_out (s:DSuper):spec_ValidSuper s=some (decide (SuperV s)):=by
 unfold spec_ValidSuper SuperV
 simp only[l00In_out,obs,decide_eq_true_eq]
 by_cases h1:16≤s.1∧s.1≤256
 case neg=>rw[if_neg h1];exact dF fun h=>h1 ⟨h.1,h.2.1⟩
 rw[if_pos h1,wrap_in (by omega) (by omega)]
 split
 ·split
  ·split
   ·exact dI (by omega)
   ·exact dF (by omega)
  ·exact dF (by omega)
 ·exact dF (by omega)
open Classical in
theorem iValidSuper_out (s:DSuper):impl_ValidSuper s=some (decide (SuperV s)):=by
 unfold impl_ValidSuper SuperV
 simp only[within_out,obs,decide_eq_true_eq]
 by_cases h1:16≤s.1∧s.1≤256
 case neg=>rw[if_neg h1];exact dF fun h=>h1 ⟨h.1,h.2.1⟩
 rw[if_pos h1,wrap_in (by omega) (by omega)]
 split
 ·split
  ·exact dI (by omega)
  ·exact dF (by omega)
 ·exact dF (by omega)
abbrev DPager:=DDisk×DSuper×Int×Int×List (Int×Str)×List (Int×Str)
def PagerIn (a:DPager) (L:Nat):Prop:=a.1.1.length≤L∧a.1.2.1.length≤L∧a.2.2.2.2.1.length≤L∧a.2.2.2.2.2.length≤L
theorem superFits_out (d:DDisk) (s:DSuper):impl_superFits d s=some (@decide (DiskV d∧SuperV s∧s.1=(d.1.length:Int)) (Classical.propDecidable _)):=by
 unfold impl_superFits
 simp only[ValidDisk_out,iValidSuper_out,obs,decide_eq_true_eq]
 split
 ·split
  ·exact dI (by simp_all)
  ·exact dF (by simp_all)
 ·exact dF (by simp_all)
def PageV (l:List (Int×Str)) (i:Nat):Prop:=∀ x,l[i]?=some x→0≤x.1∧x.1≤255∧x.2.length=64∧(0<i→∀ y,l[i-1]?=some y→y.1<x.1)
def PagesV (l:List (Int×Str)):Prop:=l.length≤256∧∀ i,i<l.length→PageV l i
theorem l11Pages_out (l:List (Int×Str)) (hl:l.length≤1048576):spec_l11Pages l=some (@decide (PagesV l) (Classical.propDecidable _)):=by
 unfold spec_l11Pages
 by_cases h1:(l.length:Int)>256
 case pos=>rw[if_pos h1];exact dF fun h=>by have:=h.1;omega
 rw[if_neg h1]
 unfold spec_l11Pages_l1
 rw[loop_all l.length (PageV l) (fun s=>spec_l11Pages_l1_b l s) (.inl ()) (.inr false) (fun i hi hp=>by
   obtain⟨x,hx⟩:=get_at hi
   have hx':=(List.getElem?_eq_some_iff.1 hx).2
   obtain⟨a,b,c,e⟩:=hp x hx
   have c':(x.2.length:Int)=64:=by omega
   simp only[spec_l11Pages_l1_b,Int.ofNat_lt.2 hi,Int.natCast_nonneg,Int.toNat_natCast,hx,if_true,obs,l00In_out,a,b,c',and_self,decide_true,not_true_eq_false,if_false,w1 (show i<9223372036854775807 by omega)]
   by_cases h0:(i:Int)>0
   ·rw[if_pos h0,wrap_in (by omega) (by omega),if_pos (by omega),show ((i:Int)-1).toNat=i-1 by omega]
    obtain⟨y,hy⟩:=get_at (l:=l) (show i-1<l.length by omega)
    rw[hy,obs,if_neg (by have:=e (by omega) y hy;omega)]
   ·rw[if_neg h0]) (fun i hi hp=>by
   obtain⟨x,hx⟩:=get_at hi
   simp only[spec_l11Pages_l1_b,Int.ofNat_lt.2 hi,Int.natCast_nonneg,Int.toNat_natCast,hx,if_true,obs,l00In_out,deq]
   by_cases a:0≤x.1∧x.1≤255
   case neg=>rw[if_pos a]
   rw[if_neg (by simpa using a)]
   by_cases c:(x.2.length:Int)=64
   case neg=>rw[if_pos c]
   rw[if_neg (by simpa using c)]
   by_cases h0:(i:Int)>0
   ·rw[if_pos h0,wrap_in (by omega) (by omega),if_pos (by omega),show ((i:Int)-1).toNat=i-1 by omega]
    obtain⟨y,hy⟩:=get_at (l:=l) (show i-1<l.length by omega)
    rw[hy,obs]
    by_cases e:y.1≥x.1
    ·rw[if_pos e]
    ·exfalso;apply hp;intro x' hx';rw[hx] at hx';cases hx'
     exact⟨a.1,a.2,by omega,fun _ y' hy'=>by rw[hy] at hy';cases hy';omega⟩
   ·exfalso;apply hp;intro x' hx';rw[hx] at hx';cases hx'
    exact⟨a.1,a.2,by omega,fun h=>by omega⟩) (by simp[spec_l11Pages_l1_b])]
 by_cases h5:∀ i,i<l.length→PageV l i
 ·rw[if_pos h5];exact dT ⟨by omega,h5⟩
 ·rw[if_neg h5];exact dF fun h=>h5 h.2
theorem ValidPages_out (l:List (Int×Str)) (hl:l.length≤1048576):impl_ValidPages l=some (@decide (PagesV l) (Classical.propDecidable _)):=by
 unfold impl_ValidPages
 unfold impl_ValidPages_l1
 rw[loop_all l.length (PageV l) (fun s=>impl_ValidPages_l1_b l l l.length s) (.inl l) (.inr false) (fun i hi hp=>by
   obtain⟨x,hx⟩:=get_at hi
   obtain⟨a,b,c,e⟩:=hp x hx
   have c':(x.2.length:Int)=64:=by omega
   simp only[impl_ValidPages_l1_b,impl_isBlock,Int.ofNat_lt.2 hi,Int.natCast_nonneg,Int.toNat_natCast,hx,if_true,obs,within_out,a,b,c',and_self,decide_true,not_true_eq_false,if_false,w1 (show i<9223372036854775807 by omega)]
   by_cases h0:(i:Int)>0
   ·rw[if_pos h0,wrap_in (by omega) (by omega),if_pos (by omega),show ((i:Int)-1).toNat=i-1 by omega]
    obtain⟨y,hy⟩:=get_at (l:=l) (show i-1<l.length by omega)
    rw[hy,obs,if_neg (by have:=e (by omega) y hy;omega)]
   ·rw[if_neg h0]) (fun i hi hp=>by
   obtain⟨x,hx⟩:=get_at hi
   simp only[impl_ValidPages_l1_b,impl_isBlock,Int.ofNat_lt.2 hi,Int.natCast_nonneg,Int.toNat_natCast,hx,if_true,obs,within_out,deq]
   by_cases a:0≤x.1∧x.1≤255
   case neg=>rw[if_pos a]
   rw[if_neg (by simpa using a)]
   by_cases h0:(i:Int)>0
   ·rw[if_pos h0,wrap_in (by omega) (by omega),if_pos (by omega),show ((i:Int)-1).toNat=i-1 by omega]
    obtain⟨y,hy⟩:=get_at (l:=l) (show i-1<l.length by omega)
    rw[hy,obs]
    by_cases e:x.1≤y.1
    ·rw[if_pos e]
    rw[if_neg e]
    by_cases c:(x.2.length:Int)=64
    case neg=>rw[if_pos c]
    exfalso;apply hp;intro x' hx';rw[hx] at hx';cases hx'
    exact⟨a.1,a.2,by omega,fun _ y' hy'=>by rw[hy] at hy';cases hy';omega⟩
   ·rw[if_neg h0]
    by_cases c:(x.2.length:Int)=64
    case neg=>rw[if_pos c]
    exfalso;apply hp;intro x' hx';rw[hx] at hx';cases hx'
    exact⟨a.1,a.2,by omega,fun h=>by omega⟩) (by simp[impl_ValidPages_l1_b])]
 by_cases h5:∀ i,i<l.length→PageV l i
 ·rw[if_pos h5];simp only[obs,Sum.elim_inl];exact dI ⟨fun h=>⟨by omega,h5⟩,fun h=>by have:=h.1;omega⟩
 ·rw[if_neg h5];exact dF fun h=>h5 h.2
def WithinV (s:DSuper) (l:List (Int×Str)):Prop:=∀ x∈l,2+s.2.1≤x.1∧x.1≤s.1-1
theorem l11Within_out (s:DSuper) (l:List (Int×Str)) (hs:SuperV s) (hl:l.length≤1048576):spec_l11Within s l=some (@decide (WithinV s l) (Classical.propDecidable _)):=by
 have hs':=hs
 obtain⟨a1,a2,a3,a4,a5,_⟩:=hs'
 unfold spec_l11Within
 unfold spec_l11Within_l1
 rw[loop_mem l (fun x=>2+s.2.1≤x.1∧x.1≤s.1-1) (fun t=>spec_l11Within_l1_b l s t) (.inl ()) (.inr false) (fun i x hi hx hp=>by
   have hx':=(List.getElem?_eq_some_iff.1 hx).2
   simp[spec_l11Within_l1_b,spec_l10Area,l00In_out,hi,hx',hp.1,hp.2,wrap_in (show -9223372036854775808≤s.1-1 by omega) (by omega),wrap_in (show -9223372036854775808≤2+s.2.1 by omega) (by omega),w1 (show i<9223372036854775807 by omega)]) (fun i x hi hx hp=>by
   have hx':=(List.getElem?_eq_some_iff.1 hx).2
   simp[spec_l11Within_l1_b,spec_l10Area,l00In_out,hi,hx',wrap_in (show -9223372036854775808≤s.1-1 by omega) (by omega),wrap_in (show -9223372036854775808≤2+s.2.1 by omega) (by omega)]
   intro a;omega) (by simp[spec_l11Within_l1_b])]
 by_cases h5:∀ x∈l,2+s.2.1≤x.1∧x.1≤s.1-1
 ·rw[if_pos h5];exact dT h5
 ·rw[if_neg h5];exact dF h5
theorem inArea_out (s:DSuper) (l:List (Int×Str)) (hs:SuperV s) (hl:l.length≤1048576):impl_Super_inArea s l=some (@decide (WithinV s l) (Classical.propDecidable _)):=by
 have hs':=hs
 obtain⟨a1,a2,a3,a4,a5,_⟩:=hs'
 have hA:impl_AreaBlock (s.1,s.2.1,s.2.2.1,s.2.2.2)=some (2+s.2.1):=by
  unfold impl_AreaBlock
  rw[show (s.1,s.2.1,s.2.2.1,s.2.2.2)=s from rfl,iValidSuper_out]
  simp[hs,wrap_in (show -9223372036854775808≤2+s.2.1 by omega) (by omega)]
 unfold impl_Super_inArea
 unfold slices_ContainsFunc_impl_Page_impl_Page__Super_inArea_c1 slices_IndexFunc_impl_Page_impl_Page__Super_inArea_c1 slices_IndexFunc_impl_Page_impl_Page__Super_inArea_c1_l1
 obtain⟨r,hr,hx⟩:=loop_find l (fun x=>2+s.2.1≤x.1∧x.1≤s.1-1) (fun t=>slices_IndexFunc_impl_Page_impl_Page__Super_inArea_c1_l1_b l s.1 s.2.1 s.2.2.1 s.2.2.2 l.length t) () (fun i x hi hx hp=>by
   have hx':=(List.getElem?_eq_some_iff.1 hx).2
   simp[slices_IndexFunc_impl_Page_impl_Page__Super_inArea_c1_l1_b,impl_Super_inArea_c1,hA,within_out,hi,hx',hp.1,hp.2,wrap_in (show -9223372036854775808≤s.1-1 by omega) (by omega),w1 (show i<9223372036854775807 by omega)]) (fun i x hi hx hp=>by
   have hx':=(List.getElem?_eq_some_iff.1 hx).2
   simp[slices_IndexFunc_impl_Page_impl_Page__Super_inArea_c1_l1_b,impl_Super_inArea_c1,hA,within_out,hi,hx',wrap_in (show -9223372036854775808≤s.1-1 by omega) (by omega)]
   omega) (by simp[slices_IndexFunc_impl_Page_impl_Page__Super_inArea_c1_l1_b])
 rw[hr]
 rcases hx with ⟨rfl,h5⟩ |⟨k,rfl,hk,h5⟩
 ·simp;exact h5
 ·simp[hk];exact h5
def FitsV (s:DSuper) (n:Nat):Prop:=n≤60∧(n=0∨1+((2*n+63) / 64:Nat)+(n:Int)≤s.2.1)
theorem tableBlocks_out (n:Nat) (h:n≤60):impl_tableBlocks n=some (((2*n+63) / 64:Nat):Int):=by
 unfold impl_tableBlocks
 rw[wrap_in (n:=2*(n:Int)) (by omega) (by omega),wrap_in (n:=2*(n:Int)+64) (by omega) (by omega),wrap_in (n:=2*(n:Int)+64-1) (by omega) (by omega)]
 rw[Int.tdiv_eq_ediv_of_nonneg (by omega),wrap_in (by omega) (by omega)]
 congr 1;omega
theorem l12Fits_out (s:DSuper) (n:Nat):spec_l12Fits s n=some (@decide (FitsV s n) (Classical.propDecidable _)):=by
 unfold spec_l12Fits
 by_cases h0:(n:Int)=0
 ·rw[if_pos h0];exact dT ⟨by omega,.inl (by omega)⟩
 rw[if_neg h0]
 by_cases h1:(n:Int)≤60
 ·rw[if_pos h1,spec_l11Blocks,show spec_l11Table n=some (((2*n+63) / 64:Nat):Int) from tableBlocks_out n (by omega)]
  simp only[obs]
  rw[wrap_in (n:=1+(((2*n+63) / 64:Nat):Int)) (by omega) (by omega),wrap_in (by omega) (by omega)]
  exact dI ⟨fun h=>⟨by omega,.inr h⟩,fun h=>by rcases h.2 with h |h;omega;exact h⟩
 ·rw[if_neg h1];exact dF fun h=>by have:=h.1;omega
theorem fits_out (s:DSuper) (n:Nat) (hs:SuperV s):impl_Super_fits s n=some (@decide (FitsV s n) (Classical.propDecidable _)):=by
 unfold impl_Super_fits
 obtain⟨a1,a2,a3,a4,a5,_⟩:=hs
 by_cases h1:(n:Int)≤60
 ·rw[if_pos h1,impl_RecordBlocks,within_out,obs]
  by_cases h0:n=0
  ·subst h0;rw[if_pos (by simp)];exact dI ⟨fun _=>⟨by omega,.inl rfl⟩,fun _=>by omega⟩
  rw[if_neg (by simp;omega),tableBlocks_out n (by omega)]
  simp only[obs]
  rw[wrap_in (n:=1+(((2*n+63) / 64:Nat):Int)) (by omega) (by omega),wrap_in (by omega) (by omega)]
  exact dI ⟨fun h=>⟨by omega,.inr h⟩,fun h=>by rcases h.2 with h |h;omega;exact h⟩
 ·rw[if_neg h1];exact dF fun h=>by have:=h.1;omega
def PagerV (a:DPager):Prop:=DiskV a.1∧((a.1.2.1.length:Int)>1→a.1.2.2.2=true)∧SuperV a.2.1∧a.2.1.1=(a.1.1.length:Int)∧(a.2.1.2.2.1≤a.2.2.1∧a.2.2.1≤1000000000000)∧(0≤a.2.2.2.1∧a.2.2.2.1≤a.2.1.2.1)∧PagesV a.2.2.2.2.1∧PagesV a.2.2.2.2.2∧WithinV a.2.1 a.2.2.2.2.1∧WithinV a.2.1 a.2.2.2.2.2∧FitsV a.2.1 a.2.2.2.2.2.length
open Classical in
theorem l12Ok_p1_out (s:DSuper) (v4:List Str) (v5:List (Int×Str)) (v6:Int) (v7:Bool) (c d:Int) (l m:List (Int×Str)) (hs:SuperV s) (hl:l.length≤1048576) (hm:m.length≤1048576) :
  spec_l12Ok_p1 v4 v5 v6 v7 s.1 s.2.1 s.2.2.1 s.2.2.2 c d l m s=some (@decide ((s.2.2.1≤c∧c≤1000000000000)∧(0≤d∧d≤s.2.1)∧PagesV l∧PagesV m∧WithinV s l∧WithinV s m∧FitsV s m.length) (Classical.propDecidable _)):=by
 unfold spec_l12Ok_p1
 simp only[show (s.1,s.2.1,s.2.2.1,s.2.2.2)=s from rfl,l00In_out,l11Pages_out _ hl,l11Pages_out _ hm,l11Within_out s _ hs hl,l11Within_out s _ hs hm,l12Fits_out,obs,deq]
 split
 ·rename_i h;exact dF fun q=>h q.1
 split
 ·rename_i h;exact dF fun q=>h q.2.1
 split
 ·rename_i h;exact dF fun q=>h q.2.2.1
 split
 ·rename_i h;exact dF fun q=>h q.2.2.2.1
 split
 ·rename_i h;exact dF fun q=>h q.2.2.2.2.1
 split
 ·rename_i h;exact dF fun q=>h q.2.2.2.2.2.1
 rename_i h1 h2 h3 h4 h5 h6
 exact dI ⟨fun q=>⟨Classical.not_not.1 h1,Classical.not_not.1 h2,Classical.not_not.1 h3,Classical.not_not.1 h4,Classical.not_not.1 h5,Classical.not_not.1 h6,q⟩,fun q=>q.2.2.2.2.2.2⟩
open Classical in
theorem ValidPager_p1_out (a:DDisk) (s:DSuper) (c d:Int) (l m:List (Int×Str)) (hs:SuperV s) (hl:l.length≤1048576) (hm:m.length≤1048576) :
  impl_ValidPager_p1 (a,s,c,d,l,m)=some (@decide (PagesV l∧PagesV m∧WithinV s l∧WithinV s m∧FitsV s m.length) (Classical.propDecidable _)):=by
 unfold impl_ValidPager_p1
 simp only[show (s.1,s.2.1,s.2.2.1,s.2.2.2)=s from rfl,ValidPages_out _ hl,ValidPages_out _ hm,inArea_out s _ hs hl,inArea_out s _ hs hm,fits_out s _ hs,obs,deq]
 by_cases h1:PagesV l
 case neg=>rw[if_neg h1];exact dF fun q=>h1 q.1
 rw[if_pos h1]
 by_cases h2:PagesV m
 case neg=>rw[if_neg h2];exact dF fun q=>h2 q.2.1
 rw[if_pos h2]
 by_cases h3:WithinV s l
 case neg=>rw[if_neg h3];exact dF fun q=>h3 q.2.2.1
 rw[if_pos h3]
 by_cases h4:WithinV s m
 case neg=>rw[if_neg h4];exact dF fun q=>h4 q.2.2.2.1
 rw[if_pos h4]
 exact dI ⟨fun q=>⟨h1,h2,h3,h4,q⟩,fun q=>q.2.2.2.2⟩
open Classical in
theorem l12Ok_out (a:DPager) (h:PagerIn a 1048576):spec_l12Ok a=some (@decide (PagerV a) (Classical.propDecidable _)):=by
 unfold spec_l12Ok PagerV
 simp only[l09Ok_out,sValidSuper_out,obs,deq,bind_some']
 by_cases h1:DiskV a.1
 case neg=>rw[if_pos h1];exact dF fun q=>h1 q.1
 rw[if_neg (by simpa using h1)]
 by_cases h3:SuperV a.2.1
 case neg =>
  simp only[h3,not_false_eq_true,if_true];split
  ·split <;> exact dF fun q=>q.2.2.1
  ·exact dF fun q=>q.2.2.1
 simp only[h3,not_true_eq_false,if_false]
 rw[l12Ok_p1_out _ _ _ _ _ _ _ _ _ h3 h.2.2.1 h.2.2.2]
 split
 ·rename_i h4;split
  ·rename_i h5;exact dF fun q=>h5 (q.2.1 h4)
  ·rename_i h5;split
   ·rename_i h6;exact dF fun q=>h6 q.2.2.2.1
   ·rename_i h6;exact dI ⟨fun q=>⟨h1,fun _=>Classical.not_not.1 h5,trivial,Classical.not_not.1 h6,q⟩,fun q=>q.2.2.2.2⟩
 ·rename_i h4;split
  ·rename_i h6;exact dF fun q=>h6 q.2.2.2.1
  ·rename_i h6;exact dI ⟨fun q=>⟨h1,fun r=>absurd r h4,trivial,Classical.not_not.1 h6,q⟩,fun q=>q.2.2.2.2⟩
open Classical in
theorem ValidPager_out (a:DPager) (h:PagerIn a 1048576):impl_ValidPager a=some (@decide (PagerV a) (Classical.propDecidable _)):=by
 unfold impl_ValidPager PagerV
 simp only[superFits_out,within_out,obs,deq,bind_some']
 by_cases h1:DiskV a.1∧SuperV a.2.1∧a.2.1.1=(a.1.1.length:Int)
 case neg=>rw[if_pos h1];exact dF fun q=>h1 ⟨q.1,q.2.2.1,q.2.2.2.1⟩
 rw[if_neg (by simpa using h1),ValidPager_p1_out _ _ _ _ _ _ h1.2.1 h.2.2.1 h.2.2.2]
 by_cases h2:a.2.1.2.2.1≤a.2.2.1∧a.2.2.1≤1000000000000
 case neg =>
  simp only[h2,not_false_eq_true,if_true];split
  ·split <;> exact dF fun q=>q.2.2.2.2.1
  ·exact dF fun q=>q.2.2.2.2.1
 simp only[h2,not_true_eq_false,if_false]
 by_cases h3:0≤a.2.2.2.1∧a.2.2.2.1≤a.2.1.2.1
 case neg =>
  simp only[h3,not_false_eq_true,if_true];split
  ·split <;> exact dF fun q=>q.2.2.2.2.2.1
  ·exact dF fun q=>q.2.2.2.2.2.1
 simp only[h3,not_true_eq_false,if_false]
 split
 ·rename_i h4;split
  ·rename_i h5;exact dF fun q=>h5 (q.2.1 h4)
  ·rename_i h5;exact dI ⟨fun q=>⟨h1.1,fun _=>Classical.not_not.1 h5,h1.2.1,h1.2.2,⟨trivial,trivial⟩,⟨trivial,trivial⟩,q⟩,fun q=>q.2.2.2.2.2.2⟩
 ·rename_i h4;exact dI ⟨fun q=>⟨h1.1,fun r=>absurd r h4,h1.2.1,h1.2.2,⟨trivial,trivial⟩,⟨trivial,trivial⟩,q⟩,fun q=>q.2.2.2.2.2.2⟩
theorem pg_eta (p:DPager):((p.1.1,p.1.2.1,p.1.2.2.1,p.1.2.2.2),(p.2.1.1,p.2.1.2.1,p.2.1.2.2.1,p.2.1.2.2.2),p.2.2.1,p.2.2.2.1,p.2.2.2.2.1,p.2.2.2.2.2)=p:=rfl
abbrev POut:=DPager×Int
abbrev outPg (p:DPager) (c:Int):POut:=(p,c)
def noPg:DPager:=(([],[],0,false),(0,0,0,0),0,0,[],[])
theorem PagerV.pin {p:DPager} (h:PagerV p):PagerIn p 1000:=by
 obtain⟨a1,a2,a3,a4,a5,a6,a7,a8,a9,a10,a11⟩:=h
 exact⟨by have:=a1.2.1;omega,by have:=a1.2.2.1;omega,by have:=a7.1;omega,by have:=a8.1;omega⟩
theorem PagerIn.up {p:DPager} (h:PagerIn p 1000):PagerIn p 1048576:=⟨by have:=h.1;omega,by have:=h.2.1;omega,by have:=h.2.2.1;omega,by have:=h.2.2.2;omega⟩
theorem PagerV.in1 {p:DPager} (h:PagerV p):PagerIn p 1048576:=h.pin.up
theorem l12Own_out (p:DPager) (h:PagerIn p 1048576):spec_l12Own p=some p:=by
 obtain⟨h1,h2,h3,h4⟩:=h
 unfold spec_l12Own spec_l09Own spec_l12Pages
 rw[appL_nil 16 _ (by unfold maxRow;omega),appL_nil 24 _ (by unfold maxRow;omega),appL_nil 24 _ (by unfold maxRow;omega),appL_nil 24 _ (by unfold maxRow;omega)]
 rfl
theorem clone_out (p:DPager) (h:PagerIn p 1048576):impl_Pager_clone p=some p:=by
 obtain⟨h1,h2,h3,h4⟩:=h
 unfold impl_Pager_clone impl_Disk_clone slices_Clone_impl_Page_impl_Page_ slices_Clone_impl_Put_impl_Put_ slices_Clone_string_string_
 rw[appL_nil 16 _ (by unfold maxRow;omega),appL_nil 24 _ (by unfold maxRow;omega),appL_nil 24 _ (by unfold maxRow;omega),appL_nil 24 _ (by unfold maxRow;omega)]
 rfl
theorem loop_meas {σ ρ:Type} {f:σ→Option (σ ⊕ ρ)} (P:ρ→Prop) (m:σ→Nat) (I:σ→Prop)
  (h:∀ s,I s→(∃ r,f s=some (.inr r)∧P r)∨∃ s',f s=some (.inl s')∧I s'∧m s'<m s):∀ (n:Nat) (s:σ),m s=n→I s→∃ r,loopO f s=some r∧P r:=by
 intro n
 induction n using Nat.strongRecOn with
 |_ n ih =>
  intro s hm hs
  rcases h s hs with ⟨r,h1,hp⟩ |⟨s',h1,h2,h3⟩
  ·exact⟨r,by rw[loopO_unfold,h1];rfl,hp⟩
  ·obtain⟨r,hr,hp⟩:=ih (m s') (by omega) s' rfl h2
   exact⟨r,by rw[loopO_unfold,h1];exact hr,hp⟩
def pgF (l:List (Int×Str)) (k:Int):Option (Int×Str):=l.find? (fun p=>decide (p.1=k))
theorem find_at {l:List (Int×Str)} {k:Int} {i:Nat} {x:Int×Str} (hx:l[i]?=some x) (hk:x.1=k) (hb:∀ j y,j<i→l[j]?=some y→y.1≠k):pgF l k=some x:=by
 unfold pgF
 rw[List.find?_eq_some_iff_append]
 have hi:=(List.getElem?_eq_some_iff.1 hx).1
 have hx':=(List.getElem?_eq_some_iff.1 hx).2
 refine⟨by simpa using hk,l.take i,l.drop (i+1),?_,fun a ha=>?_⟩
 ·rw[← hx',List.getElem_cons_drop,List.take_append_drop]
 ·obtain⟨j,hj,rfl⟩:=List.mem_iff_getElem.1 ha
  simp only[List.length_take] at hj
  have:=hb j l[j] (by omega) (List.getElem?_eq_getElem (by omega))
  simpa using this
theorem find_no {l:List (Int×Str)} {k:Int} (hb:∀ (j:Nat) (y:Int×Str),l[j]?=some y→y.1≠k):pgF l k=none:=by
 unfold pgF
 rw[List.find?_eq_none]
 intro x hx
 obtain⟨j,hj,rfl⟩:=List.mem_iff_getElem.1 hx
 simpa using hb j _ (List.getElem?_eq_getElem hj)
theorem PagesV.rise {l:List (Int×Str)} (h:PagesV l):∀ (j i:Nat) (x y:Int×Str),i<j→l[i]?=some x→l[j]?=some y→x.1<y.1:=by
 intro j
 induction j with
 |zero=>intro i x y hij;omega
 |succ j ih =>
  intro i x y hij hx hy
  have hj:=(List.getElem?_eq_some_iff.1 hy).1
  obtain⟨z,hz⟩:=get_at (l:=l) (i:=j) (by omega)
  have h1:=(h.2 (j+1) hj y hy).2.2.2 (by omega) z (by simpa using hz)
  by_cases hi:i=j
  ·subst hi;rw[hx] at hz;cases hz;exact h1
  ·have:=ih i x z (by omega) hx hz
   omega
theorem half {i j:Nat} (h:i+j≤4194304):IntKind.i64.wrap (shrV .u64 (IntKind.u64.wrap (IntKind.i64.wrap ((i:Int)+j))) 1)=(((i+j) / 2:Nat):Int):=by
 rw[wrap_in (n:=(i:Int)+j) (by omega) (by omega)]
 have e:IntKind.u64.wrap ((i:Int)+j)=(i:Int)+j:=by simp[IntKind.wrap,IntKind.bits,IntKind.signed];omega
 rw[e]
 have e2:shrV .u64 ((i:Int)+j) 1=((i:Int)+j) / 2:=by
  unfold shrV
  rw[Int.fdiv_eq_ediv_of_nonneg _ (by exact Int.pow_nonneg (by omega))]
  rfl
 rw[e2,wrap_in (by omega) (by omega)]
 omega
theorem pageAt_out (l:List (Int×Str)) (k:Int) (hv:PagesV l) (hl:l.length≤1048576):∃ (i:Nat),i≤l.length∧(∀ j y,j<i→l[j]?=some y→y.1<k)∧(∀ j y,i≤j→l[j]?=some y→k≤y.1) ∧
  impl_pageAt l k=some ((i:Int),(pgF l k).isSome)∧(∀ x,pgF l k=some x→l[i]?=some x):=by
 unfold impl_pageAt slices_BinarySearchFunc_impl_Page_impl_Page_int64__pageAt_c1 slices_BinarySearchFunc_impl_Page_impl_Page_int64__pageAt_c1_l1
 have hc:∀ x:Int×Str,impl_pageAt_c1 x k=some (if x.1<k then -1 else if x.1>k then 1 else 0):=fun x=>by
  simp only[impl_pageAt_c1,cmp_Compare_int64,cmp_isNaN_int64,obs]
  simp
  split
  ·rfl
  ·split <;> rfl
 obtain⟨r,hr,i,rfl,hi,h1,h2⟩:=loop_meas (f:=fun s=>slices_BinarySearchFunc_impl_Page_impl_Page_int64__pageAt_c1_l1_b l k (l.length:Int) s.1 s.2)
  (fun r=>∃ i:Nat,r=(l,k,(l.length:Int),(i:Int))∧i≤l.length∧(∀ j y,j<i→l[j]?=some y→y.1<k)∧(∀ j y,i≤j→l[j]?=some y→k≤y.1))
  (fun s=>(s.2-s.1).toNat) (fun s=>∃ i j:Nat,s=((i:Int),(j:Int))∧i≤j∧j≤l.length∧(∀ m y,m<i→l[m]?=some y→y.1<k)∧(∀ m y,j≤m→l[m]?=some y→k≤y.1))
  (fun s hs=>by
   obtain⟨i,j,rfl,hij,hjl,ha,hb⟩:=hs
   simp only[slices_BinarySearchFunc_impl_Page_impl_Page_int64__pageAt_c1_l1_b]
   by_cases hlt:i<j
   ·rw[if_pos (by omega),half (by omega),if_pos (by omega),Int.toNat_natCast]
    obtain⟨x,hx⟩:=get_at (l:=l) (i:=(i+j) / 2) (by omega)
    rw[hx,obs,hc,obs]
    right
    by_cases hk:x.1<k
    ·rw[if_pos hk,if_pos (by omega),w1 (by omega)]
     refine⟨_,rfl,⟨(i+j) / 2+1,j,by simp,by omega,hjl,fun m y hm hy=>?_,hb⟩,by simp only;omega⟩
     by_cases hmi:m=(i+j) / 2
     ·subst hmi;rw[hx] at hy;cases hy;exact hk
     ·have:=hv.rise ((i+j) / 2) m y x (by omega) hy hx
      omega
    ·rw[if_neg (by rw[if_neg hk];split <;> omega)]
     refine⟨_,rfl,⟨i,(i+j) / 2,by simp,by omega,by omega,ha,fun m y hm hy=>?_⟩,by simp only;omega⟩
     by_cases hmi:m=(i+j) / 2
     ·subst hmi;rw[hx] at hy;cases hy;omega
     ·have:=hv.rise m ((i+j) / 2) x y (by omega) hx hy
      omega
   ·rw[if_neg (by omega)]
    have:i=j:=by omega
    subst this
    exact .inl ⟨_,rfl,i,rfl,hjl,ha,hb⟩) _ (0,(l.length:Int)) rfl ⟨0,l.length,rfl,by omega,Nat.le_refl _,fun m y hm=>by omega,fun m y hm hy=>by have:=(List.getElem?_eq_some_iff.1 hy).1;omega⟩
 refine⟨i,hi,h1,h2,?_⟩
 rw[hr,obs]
 simp only
 by_cases hn:i<l.length
 ·obtain⟨x,hx⟩:=get_at hn
  rw[if_pos (by omega),if_pos (by omega),Int.toNat_natCast,hx,obs,hc,obs,obs]
  have hxk:=h2 i x (Nat.le_refl _) hx
  by_cases hk:x.1=k
  ·have hf:pgF l k=some x:=find_at hx hk fun j y hj hy=>by have:=h1 j y hj hy;omega
   rw[hf]
   refine⟨by simp[hk],fun z hz=>hz ▸ rfl⟩
  ·have hf:pgF l k=none:=find_no fun j y hy=>by
    by_cases hj:j<i
    ·have:=h1 j y hj hy;omega
    ·by_cases hji:j=i
     ·subst hji;rw[hx] at hy;cases hy;exact hk
     ·have:=hv.rise j i x y (by omega) hx hy
      omega
   rw[hf]
   refine⟨?_,fun z hz=>by cases hz⟩
   rw[if_neg (by omega),if_pos (by omega)]
   simp
 ·rw[if_neg (by omega),obs]
  have hf:pgF l k=none:=find_no fun j y hy=>by
   have hjl:=(List.getElem?_eq_some_iff.1 hy).1
   have:=h1 j y (by omega) hy;omega
  rw[hf]
  exact⟨rfl,fun z hz=>by cases hz⟩
def mrg:List (Int×Str)→List (Int×Str)→List (Int×Str)
 |a,[]=>a
 |[],y::b=>y::b
 |x::a,y::b=>if x.1<y.1 then x::mrg a (y::b) else if x.1=y.1 then y::mrg a b else y::mrg (x::a) b
termination_by a b=>a.length+b.length
theorem mrg_nil (a:List (Int×Str)):mrg a []=a:=by cases a <;> simp[mrg]
theorem nil_mrg (b:List (Int×Str)):mrg [] b=b:=by cases b <;> simp[mrg]
theorem mrg_cons (x y:Int×Str) (a b:List (Int×Str)):mrg (x::a) (y::b)=if x.1<y.1 then x::mrg a (y::b) else if x.1=y.1 then y::mrg a b else y::mrg (x::a) b:=by rw[mrg]
theorem dropG {α:Type} {l:List α} {i:Nat} {x:α} (h:l[i]?=some x):l.drop i=x::l.drop (i+1):=by
 have hi:=(List.getElem?_eq_some_iff.1 h).1
 have hx:=(List.getElem?_eq_some_iff.1 h).2
 rw[← hx,List.getElem_cons_drop]
theorem happ24 (l:List (Int×Str)) (x:Int×Str) (h:l.length≤4194304):appL 24 l (lit [x])=some (l++[x]):=by unfold appL lit;rw[if_pos (by simp[maxRow];omega)]
theorem l11Merge_out (a b:List (Int×Str)) (ha:a.length≤1048576) (hb:b.length≤1048576):spec_l11Merge a b=some (mrg a b):=by
 unfold spec_l11Merge spec_l11Merge_l1
 obtain⟨r,hr,rfl⟩:=loop_meas (f:=fun s=>spec_l11Merge_l1_b s.1 s.2.1 s.2.2.1 s.2.2.2.1 s.2.2.2.2) (fun r=>r=mrg a b) (fun s=>(a.length-s.2.2.2.1.toNat)+(b.length-s.2.2.2.2.toNat))
  (fun s=>∃ (o:List (Int×Str)) (i j:Nat),s=(a,b,o,(i:Int),(j:Int))∧i≤a.length∧j≤b.length∧o.length≤i+j∧o++mrg (a.drop i) (b.drop j)=mrg a b)
  (fun s hs=>by
   obtain⟨o,i,j,rfl,hi,hj,ho,hm⟩:=hs
   simp only[spec_l11Merge_l1_b]
   -- the three ways to go on
   have goA:∀ x,a[i]?=some x→i<a.length→mrg (a.drop i) (b.drop j)=x::mrg (a.drop (i+1)) (b.drop j)→spec_l11Merge_p3 a b o (i:Int) (j:Int)=some (a,b,o++[x],((i+1:Nat):Int),(j:Int)) ∧
     (o++[x]).length≤(i+1)+j∧(o++[x])++mrg (a.drop (i+1)) (b.drop j)=mrg a b:=fun x hx hia he=>by
    refine⟨?_,by simp;omega,by rw[← hm,he];simp⟩
    unfold spec_l11Merge_p3
    rw[if_pos (by omega),Int.toNat_natCast,hx,obs,happ24 _ _ (by omega),obs,w1 (by omega)];rfl
   have goB:∀ (i':Nat) y,b[j]?=some y→j<b.length→i'≤i+1→mrg (a.drop i) (b.drop j)=y::mrg (a.drop i') (b.drop (j+1))→i≤i'→spec_l11Merge_p5 a b o (i':Int) (j:Int)=some (a,b,o++[y],(i':Int),((j+1:Nat):Int)) ∧
     (o++[y]).length≤i'+(j+1)∧(o++[y])++mrg (a.drop i') (b.drop (j+1))=mrg a b:=fun i' y hy hjb hi' he hii=>by
    refine⟨?_,by simp;omega,by rw[← hm,he];simp⟩
    unfold spec_l11Merge_p5
    rw[if_pos (by omega),Int.toNat_natCast,hy,obs,happ24 _ _ (by omega),obs,w1 (by omega)];rfl
   have p4:∀ y,b[j]?=some y→j<b.length→(∀ x,a[i]?=some x→¬x.1<y.1)→∃ (o':List (Int×Str)) (i':Nat),spec_l11Merge_p4 a b o (i:Int) (j:Int)=some (a,b,o',(i':Int),((j+1:Nat):Int))∧i≤i'∧i'≤a.length∧o'.length≤i'+(j+1) ∧
     o'++mrg (a.drop i') (b.drop (j+1))=mrg a b:=fun y hy hjb hx0=>by
    unfold spec_l11Merge_p4
    by_cases hia:i<a.length
    ·obtain⟨x,hx⟩:=get_at hia
     have hlt:=hx0 x hx
     rw[if_pos (by omega),if_pos (by omega),Int.toNat_natCast,hx,obs,if_pos (by omega),Int.toNat_natCast,hy,obs]
     by_cases he:x.1=y.1
     ·rw[if_pos he,w1 (by omega)]
      obtain⟨q1,q2,q3⟩:=goB (i+1) y hy hjb (by omega) (by rw[dropG hx,dropG hy,mrg_cons,if_neg hlt,if_pos he]) (by omega)
      rw[show ((i:Int)+1)=((i+1:Nat):Int) by omega,q1]
      exact⟨_,i+1,rfl,by omega,by omega,q2,q3⟩
     ·rw[if_neg he]
      obtain⟨q1,q2,q3⟩:=goB i y hy hjb (by omega) (by rw[dropG hx,dropG hy,mrg_cons,if_neg hlt,if_neg he]) (by omega)
      rw[q1]
      exact⟨_,i,rfl,by omega,by omega,q2,q3⟩
    ·rw[if_neg (by omega)]
     have hd:a.drop i=[]:=List.drop_eq_nil_of_le (by omega)
     obtain⟨q1,q2,q3⟩:=goB i y hy hjb (by omega) (by rw[hd,dropG hy,nil_mrg,nil_mrg]) (by omega)
     rw[q1]
     exact⟨_,i,rfl,by omega,by omega,q2,q3⟩
   have p2:i<a.length∨j<b.length→∃ (o':List (Int×Str)) (i' j':Nat),spec_l11Merge_p2 a b o (i:Int) (j:Int)=some (a,b,o',(i':Int),(j':Int))∧i'≤a.length∧j'≤b.length∧o'.length≤i'+j'∧(a.length-i')+(b.length-j')<(a.length-i)+(b.length-j) ∧
     o'++mrg (a.drop i') (b.drop j')=mrg a b:=fun hor=>by
    unfold spec_l11Merge_p2
    by_cases hjb:j=b.length
    ·obtain⟨x,hx⟩:=get_at (l:=a) (i:=i) (by omega)
     obtain⟨q1,q2,q3⟩:=goA x hx (by omega) (by rw[List.drop_eq_nil_of_le (by omega:b.length≤j),mrg_nil,mrg_nil,dropG hx])
     rw[if_pos (by omega),q1]
     exact⟨_,i+1,j,rfl,by omega,hj,q2,by omega,q3⟩
    ·obtain⟨y,hy⟩:=get_at (l:=b) (i:=j) (by omega)
     rw[if_neg (by omega)]
     by_cases hia:i<a.length
     ·obtain⟨x,hx⟩:=get_at hia
      rw[if_pos (by omega),if_pos (by omega),Int.toNat_natCast,hx,obs,if_pos (by omega),Int.toNat_natCast,hy,obs]
      by_cases hlt:x.1<y.1
      ·obtain⟨q1,q2,q3⟩:=goA x hx hia (by rw[dropG hx,dropG hy,mrg_cons,if_pos hlt])
       rw[if_pos hlt,q1]
       exact⟨_,i+1,j,rfl,by omega,hj,q2,by omega,q3⟩
      ·obtain⟨o',i',q1,q2,q3,q4,q5⟩:=p4 y hy (by omega) (fun z hz=>by rw[hx] at hz;cases hz;exact hlt)
       rw[if_neg hlt,q1]
       exact⟨o',i',j+1,rfl,q3,by omega,q4,by omega,q5⟩
     ·obtain⟨o',i',q1,q2,q3,q4,q5⟩:=p4 y hy (by omega) (fun z hz=>by have:=(List.getElem?_eq_some_iff.1 hz).1;omega)
      rw[if_neg (by omega),q1]
      exact⟨o',i',j+1,rfl,q3,by omega,q4,by omega,q5⟩
   by_cases hia:i<a.length
   ·obtain⟨o',i',j',q1,q2,q3,q4,q5,q6⟩:=p2 (.inl hia)
    rw[if_pos (by omega),q1]
    exact .inr ⟨_,rfl,⟨o',i',j',rfl,q2,q3,q4,q6⟩,by simp only[Int.toNat_natCast];exact q5⟩
   ·rw[if_neg (by omega)]
    by_cases hjb:j<b.length
    ·obtain⟨o',i',j',q1,q2,q3,q4,q5,q6⟩:=p2 (.inr hjb)
     rw[if_pos (by omega),q1]
     exact .inr ⟨_,rfl,⟨o',i',j',rfl,q2,q3,q4,q6⟩,by simp only[Int.toNat_natCast];exact q5⟩
    ·rw[if_neg (by omega)]
     refine .inl ⟨_,rfl,?_⟩
     rw[List.drop_eq_nil_of_le (by omega),List.drop_eq_nil_of_le (by omega),mrg_nil,List.append_nil] at hm
     exact hm) _ (a,b,[],0,0) rfl ⟨[],0,0,rfl,Nat.zero_le _,Nat.zero_le _,by simp,by simp⟩
 rw[hr,obs]
def setL:List (Int×Str)→Int→Str→List (Int×Str)
 |[],k,d=>[(k,d)]
 |x::l,k,d=>if x.1<k then x::setL l k d else if x.1=k then (k,d)::l else (k,d)::x::l
theorem mrg_one (k:Int) (d:Str):∀ l:List (Int×Str),mrg l [(k,d)]=setL l k d
 |[]=>by rw[nil_mrg];rfl
 |x::l=>by rw[mrg_cons,mrg_nil,mrg_nil,mrg_one k d l];rfl
theorem setL_at (k:Int) (d:Str):∀ (l:List (Int×Str)) (i:Nat),i≤l.length→(∀ j y,j<i→l[j]?=some y→y.1<k)→(∀ j y,i≤j→l[j]?=some y→k≤y.1) →
  setL l k d=match l[i]? with |some x=>if x.1=k then l.set i (k,d) else l.take i++(k,d)::l.drop i |none=>l.take i++(k,d)::l.drop i
 |[],i,hi,h1,h2=>by
  have:i=0:=by simpa using hi
  subst this;rfl
 |x::l,0,hi,h1,h2=>by
  have hx:=h2 0 x (Nat.le_refl _) rfl
  simp only[setL,List.getElem?_cons_zero]
  rw[if_neg (by omega)]
  split <;> simp
 |x::l,i+1,hi,h1,h2=>by
  have hx:=h1 0 x (by omega) rfl
  have ih:=setL_at k d l i (by simpa using hi) (fun j y hj hy=>h1 (j+1) y (by omega) (by simpa using hy)) (fun j y hj hy=>h2 (j+1) y (by omega) (by simpa using hy))
  simp only[setL,if_pos hx,List.getElem?_cons_succ,ih]
  split
  ·split <;> simp
  ·simp
theorem setL_len (k:Int) (d:Str):∀ l:List (Int×Str),(setL l k d).length≤l.length+1
 |[]=>by simp[setL]
 |x::l=>by
  have:=setL_len k d l
  simp only[setL]
  split
  ·simp;omega
  ·split <;> simp
theorem pagesV_iff (l:List (Int×Str)):PagesV l↔l.length≤256∧(∀ x∈l,0≤x.1∧x.1≤255∧x.2.length=64)∧l.Pairwise (fun x y=>x.1<y.1):=by
 constructor
 ·intro h
  refine⟨h.1,fun x hx=>?_,?_⟩
  ·obtain⟨i,hi,rfl⟩:=List.mem_iff_getElem.1 hx
   have:=h.2 i hi _ (List.getElem?_eq_getElem hi)
   exact⟨this.1,this.2.1,this.2.2.1⟩
  ·rw[List.pairwise_iff_getElem]
   intro i j hi hj hij
   exact h.rise j i _ _ hij (List.getElem?_eq_getElem hi) (List.getElem?_eq_getElem hj)
 ·rintro⟨h1,h2,h3⟩
  refine⟨h1,fun i hi x hx=>?_⟩
  obtain⟨b1,b2,b3⟩:=h2 x (List.mem_of_getElem? hx)
  refine⟨b1,b2,b3,fun hi0 y hy=>?_⟩
  rw[List.pairwise_iff_getElem] at h3
  have hx':=(List.getElem?_eq_some_iff.1 hx).2
  have hy':=(List.getElem?_eq_some_iff.1 hy).2
  have:=h3 (i-1) i (by omega) hi (by omega)
  rw[hx',hy'] at this
  exact this
theorem mem_setL (k:Int) (d:Str):∀ (l:List (Int×Str)) (x:Int×Str),x∈setL l k d→x=(k,d)∨x∈l
 |[],x,h=>by simpa [setL] using h
 |y::l,x,h=>by
  simp only[setL] at h
  split at h
  ·rcases List.mem_cons.1 h with h |h
   ·exact .inr (by simp[h])
   ·rcases mem_setL k d l x h with h |h
    ·exact .inl h
    ·exact .inr (by simp[h])
  ·split at h
   ·rcases List.mem_cons.1 h with h |h
    ·exact .inl h
    ·exact .inr (by simp[h])
   ·rcases List.mem_cons.1 h with h |h
    ·exact .inl h
    ·exact .inr h
theorem setL_rise (k:Int) (d:Str):∀ l:List (Int×Str),l.Pairwise (fun x y=>x.1<y.1)→(setL l k d).Pairwise (fun x y=>x.1<y.1)
 |[],_=>by simp[setL]
 |y::l,h=>by
  obtain⟨h1,h2⟩:=List.pairwise_cons.1 h
  simp only[setL]
  split
  ·rename_i hlt
   refine List.pairwise_cons.2 ⟨fun x hx=>?_,setL_rise k d l h2⟩
   rcases mem_setL k d l x hx with rfl |hx
   ·exact hlt
   ·exact h1 x hx
  ·split
   ·rename_i hlt he
    exact List.pairwise_cons.2 ⟨fun x hx=>by have:=h1 x hx;simp only;omega,h2⟩
   ·rename_i hlt he
    refine List.pairwise_cons.2 ⟨fun x hx=>?_,h⟩
    rcases List.mem_cons.1 hx with rfl |hx
    ·simp only;omega
    ·have:=h1 x hx;simp only;omega
theorem setL_pagesV {l:List (Int×Str)} {k:Int} {d:Str} (h:PagesV l) (h0:0≤k) (h1:k≤255) (hd:d.length=64) (hn:(setL l k d).length≤256):PagesV (setL l k d):=by
 obtain⟨g1,g2,g3⟩:=(pagesV_iff l).1 h
 refine (pagesV_iff _).2 ⟨hn,fun x hx=>?_,setL_rise k d l g3⟩
 rcases mem_setL k d l x hx with rfl |hx
 ·exact⟨h0,h1,hd⟩
 ·exact g2 x hx
theorem setL_length {l:List (Int×Str)} {k:Int} {d:Str} {i:Nat} (hv:PagesV l) (hi:i≤l.length) (h1:∀ j y,j<i→l[j]?=some y→y.1<k) (h2:∀ j y,i≤j→l[j]?=some y→k≤y.1) :
  (setL l k d).length=if (pgF l k).isSome then l.length else l.length+1:=by
 rw[setL_at k d l i hi h1 h2]
 cases hx:l[i]? with
 |none =>
  have hn:pgF l k=none:=find_no fun j y hy=>by
   have hj:=(List.getElem?_eq_some_iff.1 hy).1
   have:=List.getElem?_eq_none_iff.1 hx
   have:=h1 j y (by omega) hy;omega
  simp[hn];omega
 |some x =>
  by_cases hk:x.1=k
  ·have:pgF l k=some x:=find_at hx hk fun j y hj hy=>by have:=h1 j y hj hy;omega
   simp[hk,this]
  ·have hn:pgF l k=none:=by
    unfold pgF
    rw[List.find?_eq_none]
    intro z hz
    obtain⟨j,hj,rfl⟩:=List.mem_iff_getElem.1 hz
    simp only[decide_eq_true_eq]
    intro he
    have hjx:=List.getElem?_eq_getElem hj
    by_cases hji:j<i
    ·have:=h1 j _ hji hjx;omega
    ·have h3:=h2 i x (Nat.le_refl _) hx
     by_cases hje:j=i
     ·subst hje;rw[hx] at hjx;cases hjx;exact hk he
     ·have:=hv.rise j i x _ (by omega) hx hjx;omega
   simp[hk,hn];omega
def setP (p:DPager) (k:Int) (d:Str):DPager:=(p.1,p.2.1,p.2.2.1,p.2.2.2.1,p.2.2.2.2.1,setL p.2.2.2.2.2 k d)
def SetV (p:DPager) (k:Int) (d:Str):Prop:=FitsV p.2.1 (setL p.2.2.2.2.2 k d).length
abbrev outPgB (p:DPager) (c:Bool):DPager×Bool:=(p,c)
open Classical in
theorem l12Set_out (p:DPager) (k:Int) (d:Str) (hin:PagerIn p 1048576) :
  spec_l12Set_oc8 p k d=some (if SetV p k d then outPgB (setP p k d) true else outPgB p false):=by
 unfold spec_l12Set_oc8
 rw[lit_eq,l11Merge_out _ _ hin.2.2.2 (by simp),obs,mrg_one]
 have:=l12Fits_out p.2.1 (setL p.2.2.2.2.2 k d).length
 rw[this,obs]
 simp only[deq]
 by_cases h:SetV p k d
 ·rw[if_pos h,if_neg (by unfold SetV at h;simpa using h)];rfl
 ·rw[if_neg h,if_pos (by unfold SetV at h;simpa using h)]
open Classical in
theorem set_out (p:DPager) (k:Int) (d:Str) (hp:PagerV p) (hin:PagerIn p 1048576) :
  impl_Pager_set_oc8 p k d=some (if SetV p k d then outPg (setP p k d) 0 else outPg p 5):=by
 unfold impl_Pager_set_oc8
 have hv:=hp.2.2.2.2.2.2.2.1
 have hfit:FitsV p.2.1 p.2.2.2.2.2.length:=hp.2.2.2.2.2.2.2.2.2.2
 obtain⟨i,hi,h1,h2,h3,h4⟩:=pageAt_out p.2.2.2.2.2 k hv hin.2.2.2
 have hlen:=setL_length (d:=d) hv hi h1 h2
 have hat:=setL_at k d _ i hi h1 h2
 rw[h3,obs]
 simp only
 cases hf:pgF p.2.2.2.2.2 k with
 |some x =>
  have hx:=h4 x hf
  have hxk:x.1=k:=by have:=List.find?_some hf;simpa using this
  have hil:=(List.getElem?_eq_some_iff.1 hx).1
  rw[hf] at hlen
  rw[hx] at hat
  simp only[if_pos hxk] at hat
  have hs:SetV p k d:=by unfold SetV;rw[hlen];exact hfit
  rw[if_pos hs,if_pos (by rfl),if_pos (by omega),Int.toNat_natCast,hx,obs]
  unfold outPg setP
  rw[hat,hxk]
 |none =>
  rw[hf] at hlen
  have hat':setL p.2.2.2.2.2 k d=p.2.2.2.2.2.take i++(k,d)::p.2.2.2.2.2.drop i:=by
   rw[hat]
   cases hx:p.2.2.2.2.2[i]? with
   |none=>rfl
   |some x =>
    simp only
    rw[if_neg]
    intro hk
    have:=find_at hx hk fun j y hj hy=>by have:=h1 j y hj hy;omega
    rw[hf] at this;cases this
  have hlb:=hin.2.2.2
  rw[if_neg (by simp),w1 (by omega)]
  have hfo:=fits_out p.2.1 (p.2.2.2.2.2.length+1) hp.2.2.1
  rw[show ((p.2.2.2.2.2.length:Nat):Int)+1=((p.2.2.2.2.2.length+1:Nat):Int) by omega,hfo,obs]
  simp only[deq]
  have hsv:SetV p k d↔FitsV p.2.1 (p.2.2.2.2.2.length+1):=by unfold SetV;rw[hlen];simp
  by_cases h:FitsV p.2.1 (p.2.2.2.2.2.length+1)
  ·rw[if_pos (hsv.2 h),if_neg (by simpa using h)]
   unfold slices_Insert_impl_Page_impl_Page_
   rw[lit_eq,insV_one]
   unfold insL
   rw[if_pos ⟨by omega,by omega,by simp only[maxRow];omega⟩,obs,Int.toNat_natCast]
   unfold outPg setP
   rw[hat']
  ·rw[if_neg (fun hh=>h (hsv.1 hh)),if_pos (by simpa using h)]
theorem setP_valid (p:DPager) (k:Int) (d:Str) (hp:PagerV p) (h0:2+p.2.1.2.1≤k) (h1:k≤p.2.1.1-1) (hd:d.length=64) (hs:SetV p k d):PagerV (setP p k d):=by
 obtain⟨a1,a2,a3,a4,a5,a6,a7,a8,a9,a10,a11⟩:=hp
 refine⟨a1,a2,a3,a4,a5,a6,a7,?_,a9,?_,hs⟩
 ·have hsn:=hs.1
  have h3:0≤p.2.1.2.1∧p.2.1.1≤256:=by
   unfold SuperV at a3;omega
  exact setL_pagesV a8 (by omega) (by omega) hd (by omega)
 ·intro x hx
  rcases mem_setL k d _ x hx with rfl |hx
  ·exact⟨h0,h1⟩
  ·exact a10 x hx
theorem loop_back {α ρ:Type} (p:α→Bool) (f:Int→Option (Int ⊕ ρ)) (rN:ρ) (rF:α→ρ) (h3:f (-1)=some (.inr rN)):∀ (m:Nat) (l:List α),l.length=m →
  (∀ (i:Nat) x,l[i]?=some x→p x=false→f (i:Int)=some (.inl ((i:Int)-1))) →
  (∀ (i:Nat) x,l[i]?=some x→p x=true→f (i:Int)=some (.inr (rF x))) →
  loopO f ((m:Int)-1)=some (match l.reverse.find? p with |some x=>rF x |none=>rN):=by
 intro m
 induction m with
 |zero =>
  intro l hl h1 h2
  obtain rfl:=List.eq_nil_of_length_eq_zero hl
  rw[loopO_unfold,show ((0:Nat):Int)-1=-1 by omega,h3];rfl
 |succ m ih =>
  intro l hl h1 h2
  obtain⟨l',x,rfl⟩:∃ l' x,l=l'++[x]:=by
   have:=List.dropLast_concat_getLast (l:=l) (by intro h;subst h;simp at hl)
   exact⟨_,_,this.symm⟩
  have hl':l'.length=m:=by simpa using hl
  have hx:(l'++[x])[m]?=some x:=by rw[← hl'];simp
  rw[loopO_unfold,show ((m+1:Nat):Int)-1=(m:Int) by omega,List.reverse_append]
  simp only[List.reverse_cons,List.reverse_nil,List.nil_append,List.cons_append,List.find?_cons]
  cases hp:p x with
  |true=>rw[h2 m x hx hp];rfl
  |false =>
   rw[h1 m x hx hp]
   simp only[obs,Sum.elim_inl]
   refine ih l' hl' (fun i y hy hpy=>h1 i y ?_ hpy) (fun i y hy hpy=>h2 i y ?_ hpy)
   ·rw[List.getElem?_append_left (List.getElem?_eq_some_iff.1 hy).1];exact hy
   ·rw[List.getElem?_append_left (List.getElem?_eq_some_iff.1 hy).1];exact hy
theorem l09Read_out (d:DDisk) (k:Int) (h:d.2.1.length≤1048576):spec_l09Read d k=readD d k:=by
 unfold spec_l09Read spec_l09Read_l1 readD
 rw[wrap_in (by omega) (by omega),if_pos (by omega)]
 rw[loop_back (fun p:Int×Str=>decide (p.1=k)) (fun s=>spec_l09Read_l1_b d.1 d.2.1 d.2.2.1 d.2.2.2 k s) (.inl (d.1,d.2.1,d.2.2.1,d.2.2.2,k)) (fun x=>.inr x.2) (by simp[spec_l09Read_l1_b]) d.2.1.length d.2.1 rfl (fun i x hx hp=>?_) (fun i x hx hp=>?_)]
 ·rw[obs]
  cases hf:d.2.1.reverse.find? (fun p=>decide (p.1=k)) with
  |some p=>rfl
  |none =>
   simp only[Sum.elim_inl]
   split
   ·cases d.1[k.toNat]? <;> rfl
   ·rfl
 ·have hi:=(List.getElem?_eq_some_iff.1 hx).1
  have hp':¬x.1=k:=by simpa using hp
  simp only[spec_l09Read_l1_b]
  rw[if_pos (by omega),if_pos (by omega),Int.toNat_natCast,hx,obs,if_neg hp',wrap_in (by omega) (by omega)]
 ·have hi:=(List.getElem?_eq_some_iff.1 hx).1
  have hp':x.1=k:=by simpa using hp
  simp only[spec_l09Read_l1_b]
  rw[if_pos (by omega),if_pos (by omega),Int.toNat_natCast,hx,obs,if_pos hp',if_pos (by omega),obs]
def rdD (d:DDisk) (k:Int):Str:=match d.2.1.reverse.find? (fun p=>decide (p.1=k)) with
 |some p=>p.2
 |none=>d.1.getD k.toNat []
theorem readD_out (d:DDisk) (k:Int) (hd:DiskV d) (h0:0≤k) (h1:k<(d.1.length:Int)):readD d k=some (rdD d k)∧(rdD d k).length=64:=by
 obtain⟨a1,a2,a3,a4,a5,a6,a7⟩:=hd
 unfold readD rdD
 rw[if_pos (by omega)]
 cases hf:d.2.1.reverse.find? (fun p=>decide (p.1=k)) with
 |some p =>
  exact⟨rfl,(a7 p (by have:=List.mem_of_find?_eq_some hf;simpa using this)).2.2⟩
 |none =>
  simp only
  rw[if_pos h0]
  obtain⟨x,hx⟩:=get_at (l:=d.1) (i:=k.toNat) (by omega)
  rw[List.getD_eq_getElem?_getD,hx]
  exact⟨rfl,a6 x (List.mem_of_getElem? hx)⟩
theorem l11Find_out (l:List (Int×Str)) (k:Int) (h:l.length≤1048576):∃ r,spec_l11Find l k=some r∧((r=-1∧pgF l k=none)∨∃ (i:Nat) (x:Int×Str),r=i∧l[i]?=some x∧pgF l k=some x):=by
 unfold spec_l11Find spec_l11Find_l1
 obtain⟨r,hr,hp⟩:=loop_ex (f:=fun s=>spec_l11Find_l1_b l k s) (fun r=>(r=.inl ()∧pgF l k=none)∨∃ (i:Nat) (x:Int×Str),r=.inr (i:Int)∧l[i]?=some x∧pgF l k=some x) l.length
  (fun i s=>s=(i:Int)∧∀ j y,j<i→l[j]?=some y→y.1≠k) (fun i s hi hs=>by
   obtain⟨rfl,hb⟩:=hs
   simp only[spec_l11Find_l1_b]
   by_cases hn:i<l.length
   ·obtain⟨x,hx⟩:=get_at hn
    rw[if_pos (by omega),if_pos (by omega),Int.toNat_natCast,hx,obs,w1 (by omega)]
    by_cases hk:x.1=k
    ·rw[if_pos hk];exact .inl ⟨_,rfl,.inr ⟨i,x,rfl,hx,find_at hx hk hb⟩⟩
    ·rw[if_neg hk]
     refine .inr ⟨hn,_,rfl,by omega,fun j y hj hy=>?_⟩
     by_cases hji:j=i
     ·subst hji;rw[hx] at hy;cases hy;exact hk
     ·exact hb j y (by omega) hy
   ·rw[if_neg (by omega)]
    exact .inl ⟨_,rfl,.inl ⟨rfl,find_no fun j y hy=>hb j y (by have:=(List.getElem?_eq_some_iff.1 hy).1;omega) hy⟩⟩) l.length 0 0 (by omega) ⟨rfl,fun j y hj=>by omega⟩
 rw[hr,obs]
 rcases hp with ⟨rfl,h1⟩ |⟨i,x,rfl,h1,h2⟩
 ·exact⟨-1,rfl,.inl ⟨rfl,h1⟩⟩
 ·exact⟨i,rfl,.inr ⟨i,x,rfl,h1,h2⟩⟩
def comP (p:DPager) (k:Int):Str:=match pgF p.2.2.2.2.1 k with |some x=>x.2 |none=>rdD p.1 k
def getP (p:DPager) (k:Int):Str:=match pgF p.2.2.2.2.2 k with |some x=>x.2 |none=>comP p k
theorem pgF_len {l:List (Int×Str)} (hv:PagesV l) {k:Int} {x:Int×Str} (h:pgF l k=some x):x.2.length=64:=by
 have:=List.mem_of_find?_eq_some h
 obtain⟨i,hi,rfl⟩:=List.mem_iff_getElem.1 this
 exact (hv.2 i hi _ (List.getElem?_eq_getElem hi)).2.2.1
theorem comP_len (p:DPager) (k:Int) (hp:PagerV p) (h0:0≤k) (h1:k<(p.1.1.length:Int)):(comP p k).length=64:=by
 unfold comP
 split
 ·rename_i x hx;exact pgF_len hp.2.2.2.2.2.2.1 hx
 ·exact (readD_out p.1 k hp.1 h0 h1).2
theorem getP_len (p:DPager) (k:Int) (hp:PagerV p) (h0:0≤k) (h1:k<(p.1.1.length:Int)):(getP p k).length=64:=by
 unfold getP
 split
 ·rename_i x hx;exact pgF_len hp.2.2.2.2.2.2.2.1 hx
 ·exact comP_len p k hp h0 h1
theorem committed_out (p:DPager) (k:Int) (hp:PagerV p) (hin:PagerIn p 1048576) (h0:0≤k) (h1:k<(p.1.1.length:Int)):impl_Pager_committed p k=some (comP p k):=by
 unfold impl_Pager_committed impl_Disk_read comP
 obtain⟨i,hi,a1,a2,a3,a4⟩:=pageAt_out p.2.2.2.2.1 k hp.2.2.2.2.2.2.1 hin.2.2.1
 rw[a3,obs]
 cases hf:pgF p.2.2.2.2.1 k with
 |some x=>simp[a4 x hf]
 |none=>simp[(readD_out p.1 k hp.1 h0 h1).1]
theorem get_out (p:DPager) (k:Int) (hp:PagerV p) (hin:PagerIn p 1048576) (h0:0≤k) (h1:k<(p.1.1.length:Int)):impl_Pager_get p k=some (getP p k):=by
 unfold impl_Pager_get getP
 obtain⟨i,hi,a1,a2,a3,a4⟩:=pageAt_out p.2.2.2.2.2 k hp.2.2.2.2.2.2.2.1 hin.2.2.2
 rw[a3,obs]
 cases hf:pgF p.2.2.2.2.2 k with
 |some x=>simp[a4 x hf]
 |none=>simp[committed_out p k hp hin h0 h1]
theorem l12Get_out (p:DPager) (k:Int) (hp:PagerV p) (hin:PagerIn p 1048576) (h0:0≤k) (h1:k<(p.1.1.length:Int)):spec_l12Get p k=some (getP p k):=by
 unfold spec_l12Get getP comP
 obtain⟨r,hr,hr2⟩:=l11Find_out p.2.2.2.2.2 k hin.2.2.2
 rw[hr,obs]
 rcases hr2 with ⟨rfl,hf⟩ |⟨i,x,rfl,hx,hf⟩
 ·rw[hf,if_neg (by omega)]
  obtain⟨r,hr,hr2⟩:=l11Find_out p.2.2.2.2.1 k hin.2.2.1
  rw[hr,obs]
  rcases hr2 with ⟨rfl,hf⟩ |⟨i,x,rfl,hx,hf⟩
  ·rw[hf,if_neg (by omega),l09Read_out _ _ hin.2.1,(readD_out p.1 k hp.1 h0 h1).1];rfl
  ·rw[hf,if_pos (by omega),if_pos (by omega),Int.toNat_natCast,hx];rfl
 ·rw[hf,if_pos (by omega),if_pos (by omega),Int.toNat_natCast,hx];rfl
def areaK (p:DPager):Int:=2+p.2.1.2.1
theorem area_in {p:DPager} (hp:PagerV p):10≤areaK p∧areaK p<(p.1.1.length:Int)-1∧(p.1.1.length:Int)≤256∧p.2.1.1=(p.1.1.length:Int):=by
 have h:=hp.2.2.1
 obtain⟨a1,a2,a3,a4,a5,_⟩:=h
 have:=hp.2.2.2.1
 unfold areaK
 omega
theorem l10Area_out (p:DPager) (hp:PagerV p):spec_l10Area p.2.1=some (areaK p):=by
 have:=area_in hp
 unfold spec_l10Area
 rw[wrap_in (by unfold areaK at this;omega) (by unfold areaK at this;omega)];rfl
theorem iArea_out (p:DPager) (hp:PagerV p):impl_Pager_area p=some (areaK p):=by
 have:=area_in hp
 unfold impl_Pager_area
 rw[wrap_in (by unfold areaK at this;omega) (by unfold areaK at this;omega)];rfl
theorem isData_out (p:DPager) (hp:PagerV p) (k n:Int) (hn:1≤n) (hn':n≤1048576):impl_Pager_isData p k n=some (decide (areaK p<k∧k≤(p.1.1.length:Int)-n)):=by
 have:=area_in hp
 unfold impl_Pager_isData
 rw[iArea_out p hp,obs,wrap_in (n:=p.2.1.1-n) (by omega) (by omega)]
 by_cases h1:k>areaK p
 ·rw[if_pos h1]
  by_cases h2:n≤p.2.1.1
  ·rw[if_pos h2];exact dI (by omega)
  ·rw[if_neg h2];exact dF (by omega)
 ·rw[if_neg h1];exact dF (by omega)
def areaP (p:DPager):Str:=getP p (areaK p)
theorem areaP_len {p:DPager} (hp:PagerV p):(areaP p).length=64:=by
 have:=area_in hp
 exact getP_len p _ hp (by omega) (by omega)
theorem l13Area_out (p:DPager) (hp:PagerV p) (hin:PagerIn p 1048576):spec_l13Area p=some (areaP p):=by
 have:=area_in hp
 unfold spec_l13Area
 rw[l10Area_out p hp,obs,l12Get_out p _ hp hin (by omega) (by omega)];rfl
theorem l13Data_out (p:DPager) (hp:PagerV p) (k n:Int) (hn:-9223372036854775808≤n) (hn':n≤9223372036854775807):spec_l13Data p k n=some (decide (1≤n∧n≤256∧areaK p<k∧k≤(p.1.1.length:Int)-n)):=by
 have:=area_in hp
 unfold spec_l13Data spec_l00In spec_l13First
 rw[l10Area_out p hp]
 simp only[obs]
 by_cases h1:1≤n
 ·by_cases h2:n≤256
  ·rw[wrap_in (n:=areaK p+1) (by omega) (by omega),wrap_in (n:=p.2.1.1-1) (by omega) (by omega)]
   by_cases h3:areaK p+1≤k
   ·by_cases h4:k≤p.2.1.1-1
    ·rw[wrap_in (n:=k+n) (by omega) (by omega)]
     by_cases h5:k+n≤p.2.1.1
     ·simp[h1,h2,h3,h4,h5];omega
     ·simp[h1,h2,h3,h4,h5];omega
    ·simp[h1,h2,h3,h4];omega
   ·simp[h1,h2,h3];omega
  ·simp[h1,h2]
 ·simp[h1]
open Classical in
theorem l13Put_out (p:DPager) (d:Str) (hp:PagerV p) (hin:PagerIn p 1048576) :
  spec_l13Put_oea p d=some (if SetV p (areaK p) d then outPg (setP p (areaK p) d) 0 else outPg p 5):=by
 unfold spec_l13Put_oea
 rw[l10Area_out p hp,obs,l12Set_out p (areaK p) d hin,obs]
 by_cases hs:SetV p (areaK p) d
 ·rw[if_pos hs,if_pos hs];rfl
 ·rw[if_neg hs,if_neg hs];rfl
def bitP (area:Str) (k:Int):Bool:=decide (bitV .and .u8 (shrV .u8 (((area.getD (4+Int.tdiv k 8).toNat 0).toNat:Nat):Int) (Int.tmod k 8)) 1=1)
theorem tdm {k:Int} (h0:0≤k) (h1:k≤300):0≤Int.tdiv k 8∧Int.tdiv k 8=k / 8∧0≤Int.tmod k 8∧Int.tmod k 8<8:=by
 rw[Int.tdiv_eq_ediv_of_nonneg h0,Int.tmod_eq_emod_of_nonneg h0];omega
theorem l13Bit_out (area:Str) (k:Int) (ha:area.length=64) (h0:0≤k) (h1:k≤300):spec_l13Bit area k=some (bitP area k):=by
 obtain⟨a,b,c,d⟩:=tdm h0 h1
 unfold spec_l13Bit bitP
 rw[wrap_in (n:=Int.tdiv k 8) (by omega) (by omega),wrap_in (n:=4+Int.tdiv k 8) (by omega) (by omega),if_pos (by omega)]
 obtain⟨x,hx⟩:=get_at (l:=area) (i:=(4+Int.tdiv k 8).toNat) (by omega)
 have hu:IntKind.u64.wrap (Int.tmod k 8)=Int.tmod k 8:=by simp[IntKind.wrap,IntKind.bits,IntKind.signed];omega
 rw[hx,obs,hu,if_neg (by omega),List.getD_eq_getElem?_getD,hx]
 rfl
theorem allocated_out (p:DPager) (hp:PagerV p) (hin:PagerIn p 1048576) (k:Int) (h0:areaK p<k) (h1:k<(p.1.1.length:Int)):impl_Pager_allocated p k=some (bitP (areaP p) k):=by
 have ha:=area_in hp
 have hl:=areaP_len hp
 unfold impl_Pager_allocated bitP
 rw[isData_out p hp k 1 (by omega) (by omega),obs,if_pos (by simp;omega),iArea_out p hp,obs,get_out p _ hp hin (by omega) (by omega),obs]
 obtain⟨a,b,c,d⟩:=tdm (k:=k) (by omega) (by omega)
 rw[wrap_in (n:=Int.tdiv k 8) (by omega) (by omega),wrap_in (n:=4+Int.tdiv k 8) (by omega) (by omega),if_pos (by omega)]
 obtain⟨x,hx⟩:=get_at (l:=areaP p) (i:=(4+Int.tdiv k 8).toNat) (by omega)
 rw[show getP p (areaK p)=areaP p from rfl,hx,obs,if_neg (by omega),List.getD_eq_getElem?_getD,hx]
 rfl
def mkStep (set:Bool) (l:List Bt) (k:Int):List Bt :=
 l.set (4+Int.tdiv k 8).toNat ⟨UInt8.ofNat ((if set=true then bitV .or .u8 (((l.getD (4+Int.tdiv k 8).toNat ⟨0⟩).v.toNat:Nat):Int) (shlV .u8 1 (Int.tmod k 8)) else bitV .andNot .u8 (((l.getD (4+Int.tdiv k 8).toNat ⟨0⟩).v.toNat:Nat):Int) (shlV .u8 1 (Int.tmod k 8)))).toNat⟩
def markL (s:Str) (k:Int) (set:Bool):Nat→List Bt
 |0=>s.map Bt.mk
 |i+1=>mkStep set (markL s k set i) (k+i)
theorem markL_len (s:Str) (k:Int) (set:Bool):∀ i,(markL s k set i).length=s.length
 |0=>by simp[markL]
 |i+1=>by simp[markL,mkStep,markL_len s k set i]
def markP (s:Str) (k n:Int) (set:Bool):Str:=(markL s k set n.toNat).map Bt.v
theorem markP_len (s:Str) (k n:Int) (set:Bool):(markP s k n set).length=s.length:=by simp[markP,markL_len]
theorem mark_loop {ρ:Type} (s:Str) (k n:Int) (set:Bool) (h0:0≤k) (hn:0≤n) (h:k+n≤256) (R:List Bt→ρ) (f:List Bt×Int→Option ((List Bt×Int) ⊕ ρ))
  (h1:∀ (m:List Bt) (i:Nat),m.length=s.length→(i:Int)<n→f (m,k+i)=some (.inl (mkStep set m (k+i),k+i+1))) (h2:∀ m,f (m,k+n)=some (.inr (R m))) :
  loopO f (s.map Bt.mk,k)=some (R (markL s k set n.toNat)):=by
 refine loop_some n.toNat (fun i st=>st=(markL s k set i,k+i)∧(i:Int)≤n) (fun i st hi hs=>?_) n.toNat 0 _ (by omega) ⟨by simp[markL],by omega⟩
 obtain⟨rfl,hin⟩:=hs
 by_cases hlt:(i:Int)<n
 ·refine .inr ⟨by omega,_,h1 _ i (markL_len s k set i) hlt,?_,by omega⟩
  simp[markL];omega
 ·have he:(i:Int)=n:=by omega
  have:i=n.toNat:=by omega
  subst this
  rw[he]
  exact .inl (h2 _)
theorem l13Mark_out (s:Str) (k n:Int) (set:Bool) (hs:s.length=64) (h0:0≤k) (hn:0≤n) (h:k+n≤256):spec_l13Mark s k n set=some (markP s k n set):=by
 unfold spec_l13Mark bytL spec_l13Mark_l1
 rw[if_pos (by rw[hs];unfold maxRow;omega),obs]
 have hw:IntKind.i64.wrap (k+n)=k+n:=wrap_in (by omega) (by omega)
 rw[mark_loop s k n set h0 hn h (fun m=>m) _ (fun m i hm hi=>?_) (fun m=>?_)]
 ·rfl
 ·simp only[spec_l13Mark_l1_b]
  obtain⟨a,b,c,d⟩:=tdm (k:=k+i) (by omega) (by omega)
  have hu:IntKind.u64.wrap (Int.tmod (k+i) 8)=Int.tmod (k+i) 8:=by simp[IntKind.wrap,IntKind.bits,IntKind.signed];omega
  rw[hw,if_pos (by omega),hu,if_neg (by omega),wrap_in (n:=Int.tdiv (k+i) 8) (by omega) (by omega),wrap_in (n:=4+Int.tdiv (k+i) 8) (by omega) (by omega),wrap_in (n:=k+i+1) (by omega) (by omega)]
  obtain⟨x,hx⟩:=get_at (l:=m) (i:=(4+Int.tdiv (k+i) 8).toNat) (by omega)
  have hd:m.getD (4+Int.tdiv (k+i) 8).toNat ⟨0⟩=x:=by rw[List.getD_eq_getElem?_getD,hx];rfl
  unfold mkStep
  rw[hd]
  cases set
  ·rw[if_neg (by simp),if_pos (by omega),hx,obs,if_pos (by omega),obs,if_neg (by simp)]
  ·rw[if_pos rfl,if_pos (by omega),hx,obs,if_pos (by omega),obs,if_pos rfl]
 ·simp only[spec_l13Mark_l1_b]
  rw[hw,if_neg (by omega)]
open Classical in
theorem mark_out (p:DPager) (k n:Int) (set:Bool) (hp:PagerV p) (hin:PagerIn p 1048576) (h0:0≤k) (hn:0≤n) (h:k+n≤256) :
  impl_Pager_mark_o8d p k n set =
   some (if SetV p (areaK p) (markP (areaP p) k n set) then outPg (setP p (areaK p) (markP (areaP p) k n set)) 0 else outPg p 5):=by
 have ha:=area_in hp
 have hs:=areaP_len hp
 unfold impl_Pager_mark_o8d
 rw[iArea_out p hp,obs,get_out p _ hp hin (by omega) (by omega),obs,show getP p (areaK p)=areaP p from rfl]
 unfold bytL impl_Pager_mark_o8d_l1
 rw[if_pos (by rw[hs];unfold maxRow;omega),obs]
 have hw:IntKind.i64.wrap (k+n)=k+n:=wrap_in (by omega) (by omega)
 rw[mark_loop (areaP p) k n set h0 hn h (fun m=>(p,m)) _ (fun m i hm hi=>?_) (fun m=>?_)]
 ·simp only[obs]
  rw[iArea_out p hp,obs,show (markL (areaP p) k set n.toNat).map Bt.v=markP (areaP p) k n set from rfl,set_out p _ _ hp hin,obs]
 ·simp only[impl_Pager_mark_o8d_l1_b]
  obtain⟨a,b,c,d⟩:=tdm (k:=k+i) (by omega) (by omega)
  rw[hw,if_pos (by omega),if_neg (by omega),wrap_in (n:=Int.tdiv (k+i) 8) (by omega) (by omega),wrap_in (n:=4+Int.tdiv (k+i) 8) (by omega) (by omega),wrap_in (n:=k+i+1) (by omega) (by omega)]
  obtain⟨x,hx⟩:=get_at (l:=m) (i:=(4+Int.tdiv (k+i) 8).toNat) (by omega)
  have hd:m.getD (4+Int.tdiv (k+i) 8).toNat ⟨0⟩=x:=by rw[List.getD_eq_getElem?_getD,hx];rfl
  unfold mkStep
  rw[hd]
  cases set
  ·rw[if_neg (by simp),if_pos (by omega),hx,obs,if_pos (by omega),obs,if_neg (by simp)]
  ·rw[if_pos rfl,if_pos (by omega),hx,obs,if_pos (by omega),obs,if_pos rfl]
 ·simp only[impl_Pager_mark_o8d_l1_b]
  rw[hw,if_neg (by omega)]
def runsF (bit:Int→Bool) (k0:Int):Nat→List (Int×Int)×Bool
 |0=>([],false)
 |i+1=>if bit (k0+i)=true then ((runsF bit k0 i).1,false)
  else if (runsF bit k0 i).2=true then ((runsF bit k0 i).1.set ((runsF bit k0 i).1.length-1) (((runsF bit k0 i).1.getD ((runsF bit k0 i).1.length-1) (0,0)).1,IntKind.i64.wrap (((runsF bit k0 i).1.getD ((runsF bit k0 i).1.length-1) (0,0)).2+1)),true)
  else ((runsF bit k0 i).1++[(k0+i,1)],true)
theorem runsF_ok (bit:Int→Bool) (k0:Int):∀ i,(runsF bit k0 i).1.length≤i∧((runsF bit k0 i).2=true→0<(runsF bit k0 i).1.length)
 |0=>⟨by simp[runsF],fun h=>by simp[runsF] at h⟩
 |i+1=>by
  obtain⟨h1,h2⟩:=runsF_ok bit k0 i
  simp only[runsF]
  split
  ·exact⟨by simp only;omega,fun h=>by cases h⟩
  ·split
   ·rename_i hb ho
    exact⟨by simp only[List.length_set];omega,fun _=>by simp only[List.length_set];exact h2 ho⟩
   ·exact⟨by simp only[List.length_append,List.length_singleton];omega,fun _=>by simp⟩
def runsP (p:DPager):List (Int×Int):=(runsF (bitP (areaP p)) (areaK p+1) (p.1.1.length-1-(areaK p).toNat)).1
theorem runsP_len {p:DPager} (hp:PagerV p):(runsP p).length≤256:=by
 have:=(runsF_ok (bitP (areaP p)) (areaK p+1) (p.1.1.length-1-(areaK p).toNat)).1
 have:=area_in hp
 unfold runsP;omega
theorem happ16 (l:List (Int×Int)) (x:Int×Int) (h:l.length≤1000):appL 16 l (lit [x])=some (l++[x]):=by unfold appL lit;rw[if_pos (by simp[maxRow];omega)]
theorem l13Runs_out (p:DPager) (hp:PagerV p) (hin:PagerIn p 1048576):spec_l13Runs p=some (runsP p):=by
 have ha:=area_in hp
 have hl:=areaP_len hp
 obtain⟨a,hae⟩:∃ a:Nat,areaK p=a:=⟨(areaK p).toNat,by omega⟩
 unfold spec_l13Runs spec_l13First spec_l13Runs_l1
 rw[l13Area_out p hp hin,obs,l10Area_out p hp,obs,obs,wrap_in (by omega) (by omega),bind_some']
 refine loop_some (p.1.1.length-1-a) (fun i s=>s=(p.1.1,p.1.2.1,p.1.2.2.1,p.1.2.2.2,p.2.1.1,p.2.1.2.1,p.2.1.2.2.1,p.2.1.2.2.2,p.2.2.1,p.2.2.2.1,p.2.2.2.2.1,p.2.2.2.2.2,areaP p,(runsF (bitP (areaP p)) (areaK p+1) i).1,(runsF (bitP (areaP p)) (areaK p+1) i).2,areaK p+1+i)) (fun i s hi hs=>?_) (p.1.1.length-1-a) 0 _ (by omega) (by simp[runsF])
 subst hs
 simp only[spec_l13Runs_l1_b]
 obtain⟨q1,q2⟩:=runsF_ok (bitP (areaP p)) (areaK p+1) i
 by_cases hn:i<p.1.1.length-1-a
 ·rw[if_pos (by omega),l13Bit_out _ _ hl (by omega) (by omega),obs]
  refine .inr ⟨hn,_,rfl.trans ?_,rfl⟩
  simp only[runsF]
  generalize runsF (bitP (areaP p)) (areaK p+1) i=R at *
  by_cases hb:bitP (areaP p) (areaK p+1+i)=true
  ·simp only[hb,not_true_eq_false,if_false,if_true,spec_l13Runs_p2,Bool.not_true,Bool.false_eq_true,obs]
   rw[wrap_in (n:=areaK p+1+i+1) (by omega) (by omega)]
   congr 3
   simp only[Int.natCast_add,Int.add_assoc];rfl
  ·have hb':bitP (areaP p) (areaK p+1+i)=false:=by simpa using hb
   by_cases ho:R.2=true
   ·have hpos:=q2 ho
    obtain⟨x,hx⟩:=get_at (l:=R.1) (i:=R.1.length-1) (by omega)
    simp only[hb',Bool.false_eq_true,not_false_eq_true,if_true,if_false,ho,Bool.not_false]
    rw[wrap_in (n:=(R.1.length:Int)-1) (by omega) (by omega),if_pos (by omega),show ((R.1.length:Int)-1).toNat=R.1.length-1 by omega,hx,obs,if_pos (by omega),obs]
    simp only[spec_l13Runs_p2,not_true_eq_false,if_true,if_false,obs,List.getD_eq_getElem?_getD,hx,Option.getD_some]
    rw[wrap_in (n:=areaK p+1+i+1) (by omega) (by omega)]
    congr 3
    simp only[Int.natCast_add,Int.add_assoc];rfl
   ·have ho':R.2=false:=by simpa using ho
    simp only[hb',Bool.false_eq_true,not_false_eq_true,if_true,if_false,ho',Bool.not_false,spec_l13Runs_p2]
    rw[happ16 _ _ (by omega),obs,obs]
    simp only
    rw[wrap_in (n:=areaK p+1+i+1) (by omega) (by omega)]
    congr 3
    simp only[Int.natCast_add,Int.add_assoc];rfl
 ·have:i=p.1.1.length-1-a:=by omega
  subst this
  rw[if_neg (by omega)]
  left
  unfold runsP
  rw[hae,Int.toNat_natCast]
theorem freeRuns_out (p:DPager) (hp:PagerV p) (hin:PagerIn p 1048576):impl_Pager_freeRuns p=some (runsP p):=by
 have ha:=area_in hp
 have hl:=areaP_len hp
 obtain⟨a,hae⟩:∃ a:Nat,areaK p=a:=⟨(areaK p).toNat,by omega⟩
 unfold impl_Pager_freeRuns impl_Pager_freeRuns_l1
 rw[iArea_out p hp,obs,wrap_in (by omega) (by omega),bind_some']
 refine loop_some (p.1.1.length-1-a) (fun i s=>s=(p.1.1,p.1.2.1,p.1.2.2.1,p.1.2.2.2,p.2.1.1,p.2.1.2.1,p.2.1.2.2.1,p.2.1.2.2.2,p.2.2.1,p.2.2.2.1,p.2.2.2.2.1,p.2.2.2.2.2,(runsF (bitP (areaP p)) (areaK p+1) i).1,(runsF (bitP (areaP p)) (areaK p+1) i).2,areaK p+1+i)) (fun i s hi hs=>?_) (p.1.1.length-1-a) 0 _ (by omega) (by simp[runsF])
 subst hs
 simp only[impl_Pager_freeRuns_l1_b]
 obtain⟨q1,q2⟩:=runsF_ok (bitP (areaP p)) (areaK p+1) i
 by_cases hn:i<p.1.1.length-1-a
 ·have hA:((p.1.1,p.1.2.1,p.1.2.2.1,p.1.2.2.2),(p.2.1.1,p.2.1.2.1,p.2.1.2.2.1,p.2.1.2.2.2),p.2.2.1,p.2.2.2.1,p.2.2.2.2.1,p.2.2.2.2.2)=p:=rfl
  rw[if_pos (by omega),hA,allocated_out p hp hin _ (by omega) (by omega),obs]
  refine .inr ⟨hn,_,rfl.trans ?_,rfl⟩
  simp only[runsF]
  generalize runsF (bitP (areaP p)) (areaK p+1) i=R at *
  by_cases hb:bitP (areaP p) (areaK p+1+i)=true
  ·simp only[hb,not_true_eq_false,if_false,if_true,impl_Pager_freeRuns_p2,Bool.not_true,Bool.false_eq_true,obs]
   rw[wrap_in (n:=areaK p+1+i+1) (by omega) (by omega)]
   congr 3
   simp only[Int.natCast_add,Int.add_assoc];rfl
  ·have hb':bitP (areaP p) (areaK p+1+i)=false:=by simpa using hb
   by_cases ho:R.2=true
   ·have hpos:=q2 ho
    obtain⟨x,hx⟩:=get_at (l:=R.1) (i:=R.1.length-1) (by omega)
    simp only[hb',Bool.false_eq_true,not_false_eq_true,if_true,if_false,ho,Bool.not_false]
    rw[wrap_in (n:=(R.1.length:Int)-1) (by omega) (by omega),if_pos (by omega),show ((R.1.length:Int)-1).toNat=R.1.length-1 by omega,hx,obs,if_pos (by omega),obs]
    simp only[List.getD_eq_getElem?_getD,hx,Option.getD_some]
    rw[wrap_in (n:=areaK p+1+i+1) (by omega) (by omega)]
    congr 3
    simp only[Int.natCast_add,Int.add_assoc];rfl
   ·have ho':R.2=false:=by simpa using ho
    simp only[hb',Bool.false_eq_true,not_false_eq_true,if_true,if_false,ho',Bool.not_false,impl_Pager_freeRuns_p2]
    rw[happ16 _ _ (by omega),obs,obs]
    simp only
    rw[wrap_in (n:=areaK p+1+i+1) (by omega) (by omega)]
    congr 3
    simp only[Int.natCast_add,Int.add_assoc];rfl
 ·have:i=p.1.1.length-1-a:=by omega
  subst this
  rw[if_neg (by omega)]
  left
  unfold runsP
  rw[hae,Int.toNat_natCast]
open Classical in
theorem iFreeRuns_out (p:DPager) (hin:PagerIn p 1048576):impl_FreeRuns p=some (if PagerV p then runsP p else []):=by
 unfold impl_FreeRuns
 simp only[ValidPager_out p hin,obs,deq]
 by_cases h:PagerV p
 ·rw[if_neg (by simpa using h),if_pos h,freeRuns_out p h hin];rfl
 ·rw[if_pos h,if_neg h]
theorem runsF_bd (bit:Int→Bool) (k0:Int) (h0:0≤k0) (h1:k0≤300):∀ i:Nat,i≤300→∀ r∈(runsF bit k0 i).1,k0≤r.1∧1≤r.2∧r.1+r.2≤k0+i
 |0,_,r,hr=>by simp[runsF] at hr
 |i+1,hi,r,hr=>by
  have ih:=runsF_bd bit k0 h0 h1 i (by omega)
  simp only[runsF] at hr
  split at hr
  ·have:=ih r hr;omega
  ·split at hr
   ·rename_i hb ho
    rcases List.mem_or_eq_of_mem_set hr with h |h
    ·have:=ih r h;omega
    ·have hpos:=(runsF_ok bit k0 i).2 ho
     obtain⟨x,hx⟩:=get_at (l:=(runsF bit k0 i).1) (i:=(runsF bit k0 i).1.length-1) (by omega)
     have hxm:=ih x (List.mem_of_getElem? hx)
     rw[List.getD_eq_getElem?_getD,hx,Option.getD_some] at h
     subst h
     simp only
     rw[wrap_in (by omega) (by omega)]
     omega
   ·simp only[List.mem_append,List.mem_singleton] at hr
    rcases hr with h |h
    ·have:=ih r h;omega
    ·subst h;simp only;omega
theorem runsP_bd {p:DPager} (hp:PagerV p):∀ r∈runsP p,areaK p<r.1∧1≤r.2∧r.1+r.2≤(p.1.1.length:Int):=fun r hr=>by
 have ha:=area_in hp
 have:=runsF_bd (bitP (areaP p)) (areaK p+1) (by omega) (by omega) _ (by omega) r hr
 omega
def stepB (n:Int) (b r:Int×Int):Int×Int:=if r.2≥n then (if b.2=0 then r else if r.2<b.2 then r else b) else b
def bestP (l:List (Int×Int)) (n:Int):Int×Int:=l.foldl (stepB n) (0,0)
theorem fold_mem (n:Int):∀ (l:List (Int×Int)) (b:Int×Int),l.foldl (stepB n) b=b∨(l.foldl (stepB n) b∈l∧n≤(l.foldl (stepB n) b).2)
 |[],b=>.inl rfl
 |x::l,b=>by
  simp only[List.foldl_cons]
  have hs:stepB n b x=b∨(stepB n b x=x∧n≤x.2):=by
   unfold stepB
   split
   ·split
    ·exact .inr ⟨rfl,by omega⟩
    ·split
     ·exact .inr ⟨rfl,by omega⟩
     ·exact .inl rfl
   ·exact .inl rfl
  rcases fold_mem n l (stepB n b x) with h |h
  ·rw[h]
   rcases hs with h2 |h2
   ·exact .inl h2
   ·rw[h2.1];exact .inr ⟨by simp,h2.2⟩
  ·exact .inr ⟨by simp[h.1],h.2⟩
theorem bestP_cases (l:List (Int×Int)) (n:Int):bestP l n=(0,0)∨(bestP l n∈l∧n≤(bestP l n).2):=fold_mem n l (0,0)
theorem best_step (l:List (Int×Int)) (n:Int) {i:Nat} {x:Int×Int} (hx:l[i]?=some x):(l.take (i+1)).foldl (stepB n) (0,0)=stepB n ((l.take i).foldl (stepB n) (0,0)) x:=by
 rw[List.take_add_one,hx]
 simp
theorem best_zero (l:List (Int×Int)) (n:Int) (hl:∀ r∈l,0<r.1∧0<r.2) (i:Nat):((l.take i).foldl (stepB n) (0,0)).1=0↔((l.take i).foldl (stepB n) (0,0)).2=0:=by
 rcases fold_mem n (l.take i) (0,0) with h |h
 ·rw[h]
 ·have:=hl _ (List.mem_of_mem_take h.1)
  omega
theorem l13Best_out (l:List (Int×Int)) (n:Int) (hlen:l.length≤1000) (hl:∀ r∈l,0<r.1∧0<r.2):spec_l13Best l n=some (bestP l n).1:=by
 unfold spec_l13Best spec_l13Best_l1
 rw[loop_some (r:=bestP l n) l.length (fun i s=>s=((l.take i).foldl (stepB n) (0,0),(i:Int))) (fun i s hi hs=>by
  subst hs
  simp only[spec_l13Best_l1_b]
  by_cases hlt:i<l.length
  ·obtain⟨x,hx⟩:=get_at hlt
   refine .inr ⟨hlt,_,?_,rfl⟩
   rw[best_step l n hx]
   have hz:=best_zero l n hl i
   generalize (l.take i).foldl (stepB n) (0,0)=b at hz
   rw[if_pos (by omega),if_pos (by omega),Int.toNat_natCast,hx,obs,wrap_in (by omega) (by omega)]
   unfold stepB
   by_cases h1:x.2≥n
   ·rw[if_pos h1,if_pos h1]
    by_cases h2:b.1=0
    ·rw[if_pos h2,if_pos (hz.1 h2),if_pos (by omega),obs];rfl
    ·rw[if_neg h2,if_neg (fun h=>h2 (hz.2 h)),if_pos (by omega),obs]
     by_cases h3:x.2<b.2
     ·rw[if_pos h3,if_pos h3,if_pos (by omega),obs];rfl
     ·rw[if_neg h3,if_neg h3];rfl
   ·rw[if_neg h1,if_neg h1];rfl
  ·have:i=l.length:=by omega
   subst this
   rw[if_neg (by omega),List.take_length]
   exact .inl rfl) l.length 0 _ (by omega) (by simp),obs]
abbrev POut2:=DPager×Int×Int
abbrev outPg2 (p:DPager) (a c:Int):POut2:=(p,a,c)
def allP (p:DPager) (n:Int):DPager:=setP p (areaK p) (markP (areaP p) (bestP (runsP p) n).1 n true)
def AllV (p:DPager) (n:Int):Prop:=SetV p (areaK p) (markP (areaP p) (bestP (runsP p) n).1 n true)
open Classical in
noncomputable def outA (p:DPager) (n:Int):POut2:=if (bestP (runsP p) n).2=0 then outPg2 p 0 5 else if AllV p n then outPg2 (allP p n) (bestP (runsP p) n).1 0 else outPg2 p (bestP (runsP p) n).1 5
theorem best_bd {p:DPager} (hp:PagerV p) {n:Int} (h:(bestP (runsP p) n).2≠0):areaK p<(bestP (runsP p) n).1∧(bestP (runsP p) n).1+n≤(p.1.1.length:Int):=by
 rcases bestP_cases (runsP p) n with h1 |⟨h1,h2⟩
 ·rw[h1] at h;exact absurd rfl h
 ·have:=runsP_bd hp _ h1
  omega
theorem l13Allocate_out (p:DPager) (n:Int) (hp:PagerV p) (hin:PagerIn p 1048576) (h1:1≤n) (h2:n≤256) :
  spec_l13Allocate_of2 p n=some (outA p n):=by
 have ha:=area_in hp
 have hb:=runsP_bd hp
 have hl:=runsP_len hp
 unfold spec_l13Allocate_of2 outA
 rw[l13Runs_out p hp hin,obs,l13Best_out _ n (by omega) (fun r hr=>by have:=hb r hr;omega),obs]
 by_cases hz:(bestP (runsP p) n).2=0
 ·have hz1:(bestP (runsP p) n).1=0:=by
   rcases bestP_cases (runsP p) n with h |⟨h,_⟩
   ·rw[h]
   ·have:=hb _ h;omega
  rw[if_pos hz1,if_pos hz]
 ·have hbd:=best_bd hp hz
  rw[if_neg (by omega),if_neg hz,l13Area_out p hp hin,obs,l13Mark_out (areaP p) _ n true (areaP_len hp) (by omega) (by omega) (by omega),obs,l13Put_out p _ hp hin,obs]
  by_cases hs:AllV p n
  ·rw[if_pos hs,if_pos (by unfold AllV at hs;exact hs)];rfl
  ·rw[if_neg hs,if_neg (by unfold AllV at hs;exact hs)]
theorem allocate_out (p:DPager) (n:Int) (hp:PagerV p) (hin:PagerIn p 1048576) (h1:1≤n) (h2:n≤256) :
  impl_Pager_allocate_of2 p n=some (outA p n):=by
 have ha:=area_in hp
 have hb:=runsP_bd hp
 have hl:=runsP_len hp
 unfold impl_Pager_allocate_of2 outA
 rw[freeRuns_out p hp hin,obs]
 unfold impl_Pager_allocate_of2_l1
 rw[loop_some (r:=(p,n,bestP (runsP p) n)) (runsP p).length (fun i s=>s=(((runsP p).take i).foldl (stepB n) (0,0),(i:Int))) (fun i s hi hs=>by
  subst hs
  simp only[impl_Pager_allocate_of2_l1_b]
  by_cases hlt:i<(runsP p).length
  ·obtain⟨x,hx⟩:=get_at hlt
   refine .inr ⟨hlt,_,?_,rfl⟩
   rw[best_step _ n hx]
   generalize ((runsP p).take i).foldl (stepB n) (0,0)=b
   rw[if_pos (by omega),if_pos (by omega),Int.toNat_natCast,hx,obs,wrap_in (by omega) (by omega)]
   unfold stepB
   by_cases h1:x.2≥n
   ·rw[if_pos h1,if_pos h1]
    by_cases h2:b.2=0
    ·rw[if_pos h2,if_pos h2];rfl
    ·rw[if_neg h2,if_neg h2]
     by_cases h3:x.2<b.2
     ·rw[if_pos h3,if_pos h3];rfl
     ·rw[if_neg h3,if_neg h3];rfl
   ·rw[if_neg h1,if_neg h1];rfl
  ·have:i=(runsP p).length:=by omega
   subst this
   rw[if_neg (by omega),List.take_length]
   exact .inl rfl) (runsP p).length 0 _ (by omega) (by simp),obs]
 by_cases hz:(bestP (runsP p) n).2=0
 ·rw[if_pos hz,if_pos hz]
 ·have hbd:=best_bd hp hz
  rw[if_neg hz,if_neg hz,mark_out p (bestP (runsP p) n).1 n true hp hin (by omega) (by omega) (by omega),obs]
  by_cases hs:AllV p n
  ·rw[if_pos hs,if_pos (by unfold AllV at hs;exact hs)];rfl
  ·rw[if_neg hs,if_neg (by unfold AllV at hs;exact hs)]
open Classical in
noncomputable def outAl (p:DPager) (n:Int):POut2 :=
 if PagerV p then (if 1≤n∧n≤256 then (if (bestP (runsP p) n).2=0 then outPg2 noPg 0 5 else if AllV p n then outPg2 (allP p n) (bestP (runsP p) n).1 0 else outPg2 noPg 0 5) else outPg2 noPg 0 2) else outPg2 noPg 0 1
theorem impl_Allocate_out (p:DPager) (n:Int) (hin:PagerIn p 1048576):impl_Allocate p n=some (outAl p n):=by
 unfold impl_Allocate outAl
 simp only[ValidPager_out p hin,obs,deq]
 by_cases h:PagerV p
 case neg=>rw[if_pos (by simpa using h),if_neg h];rfl
 rw[if_neg (by simpa using h),if_pos h]
 have hwi:impl_within n 1 256=some (decide (1≤n∧n≤256)):=by
  unfold impl_within
  by_cases h1:1≤n <;> by_cases h2:n≤256 <;> simp[h1,h2]
 rw[hwi,obs]
 by_cases hnn:1≤n∧n≤256
 case neg=>rw[if_pos (by simpa using hnn),if_neg hnn];rfl
 rw[if_neg (by simpa using hnn),if_pos hnn]
 unfold impl_Pager_changed_o25 impl_Allocate_c1_o8a
 try simp only[pg_eta]
 rw[clone_out p hin,obs]
 try simp only[pg_eta]
 rw[allocate_out p n h hin hnn.1 hnn.2]
 unfold outA
 by_cases hz:(bestP (runsP p) n).2=0
 ·rw[if_pos hz,if_pos hz];rfl
 ·rw[if_neg hz,if_neg hz]
  by_cases hs:AllV p n
  ·rw[if_pos hs,if_pos hs];rfl
  ·rw[if_neg hs,if_neg hs];rfl
def AllBit (p:DPager) (k n:Int):Prop:=∀ j:Nat,(j:Int)<n→bitP (areaP p) (k+j)=true
open Classical in
noncomputable def outRe (p:DPager) (k n:Int):POut :=
 if PagerV p then (if 1≤n∧n≤256∧areaK p<k∧k≤(p.1.1.length:Int)-n then (if AllBit p k n then (if SetV p (areaK p) (markP (areaP p) k n false) then outPg (setP p (areaK p) (markP (areaP p) k n false)) 0 else outPg noPg 5) else outPg noPg 6) else outPg noPg 2) else outPg noPg 1
theorem bits_loop {ρ:Type} (p:DPager) (k n:Int) (h0:0≤k) (hn:0≤n) (rT rF:ρ) (f:Int→Option (Int ⊕ ρ))
  (h1:∀ j:Nat,(j:Int)<n→f (k+j)=some (if bitP (areaP p) (k+j)=true then .inl (k+j+1) else .inr rF)) (h2:f (k+n)=some (.inr rT)) :
  loopO f k=some (@ite _ (AllBit p k n) (Classical.propDecidable _) rT rF):=by
 obtain⟨r,hr,hp⟩:=loop_ex (f:=f) (fun r=>(AllBit p k n∧r=rT)∨(¬AllBit p k n∧r=rF)) n.toNat
  (fun i s=>s=k+i∧(i:Int)≤n∧∀ j:Nat,j<i→bitP (areaP p) (k+j)=true) (fun i s hi hs=>by
   obtain⟨rfl,hin,hb⟩:=hs
   by_cases hlt:(i:Int)<n
   ·rw[h1 i hlt]
    by_cases hbit:bitP (areaP p) (k+i)=true
    ·rw[if_pos hbit]
     refine .inr ⟨by omega,_,rfl,by omega,by omega,fun j hj=>?_⟩
     by_cases hji:j=i
     ·subst hji;exact hbit
     ·exact hb j (by omega)
    ·rw[if_neg hbit]
     exact .inl ⟨_,rfl,.inr ⟨fun hall=>hbit (hall i hlt),rfl⟩⟩
   ·have:(i:Int)=n:=by omega
    rw[this,h2]
    exact .inl ⟨_,rfl,.inl ⟨fun j hj=>hb j (by omega),rfl⟩⟩) n.toNat 0 k (by omega) ⟨by omega,by omega,fun j hj=>by omega⟩
 rw[hr]
 rcases hp with ⟨h,rfl⟩ |⟨h,rfl⟩
 ·rw[if_pos h]
 ·rw[if_neg h]
theorem impl_Release_out (p:DPager) (k n:Int) (hin:PagerIn p 1048576):impl_Release p k n=some (outRe p k n):=by
 unfold impl_Release outRe
 simp only[ValidPager_out p hin,obs,deq]
 by_cases h:PagerV p
 case neg=>rw[if_pos (by simpa using h),if_neg h];rfl
 have ha:=area_in h
 have hl:=areaP_len h
 rw[if_neg (by simpa using h),if_pos h]
 have hwi:impl_within n 1 256=some (decide (1≤n∧n≤256)):=by
  unfold impl_within
  by_cases h1:1≤n <;> by_cases h2:n≤256 <;> simp[h1,h2]
 rw[hwi,obs]
 by_cases hnn:1≤n∧n≤256
 case neg=>rw[if_pos (by simpa using hnn),if_neg (fun hh=>hnn ⟨hh.1,hh.2.1⟩)];rfl
 rw[if_neg (by simpa using hnn)]
 unfold impl_Pager_changed_Release_c1 impl_Release_c1_oc7 impl_Pager_release_oe8
 rw[clone_out p hin,obs]
 try simp only[pg_eta]
 rw[isData_out p h k n (by omega) (by omega),obs]
 by_cases hd:areaK p<k∧k≤(p.1.1.length:Int)-n
 case neg=>rw[if_pos (by simpa using hd),if_neg (fun hh=>hd hh.2.2)];rfl
 rw[if_neg (by simpa using hd),if_pos ⟨hnn.1,hnn.2,hd⟩]
 have hw:IntKind.i64.wrap (k+n)=k+n:=wrap_in (by omega) (by omega)
 unfold impl_Pager_release_oe8_l1
 rw[bits_loop p k n (by omega) (by omega) (.inl (p,k,n)) (.inr (outPg p 6)) _ (fun j hj=>by
  simp only[impl_Pager_release_oe8_l1_b]
  rw[hw,if_pos (by omega),allocated_out p h hin (k+j) (by omega) (by omega),obs,wrap_in (n:=k+j+1) (by omega) (by omega)]
  by_cases hb:bitP (areaP p) (k+j)=true
  ·rw[if_neg (by simpa using hb),if_pos hb]
  ·rw[if_pos (by simpa using hb),if_neg hb]) (by
  simp only[impl_Pager_release_oe8_l1_b]
  rw[hw,if_neg (by omega)]),obs]
 by_cases hb:AllBit p k n
 case neg=>rw[if_neg hb,if_neg hb];rfl
 rw[if_pos hb,if_pos hb]
 simp only[Sum.elim_inl]
 rw[mark_out p k n false h hin (by omega) (by omega) (by omega),obs,obs,obs]
 by_cases hs:SetV p (areaK p) (markP (areaP p) k n false)
 ·rw[if_pos hs,if_pos hs];rfl
 ·rw[if_neg hs,if_neg hs];rfl
def cntF (bit:Int→Bool) (k0:Int):Nat→Int
 |0=>0
 |i+1=>cntF bit k0 i+(if bit (k0+i)=true then 0 else 1)
def smW (l:List (Int×Int)):Int:=(l.map (·.2)).sum
theorem smW_app (l m:List (Int×Int)):smW (l++m)=smW l+smW m:=by simp[smW]
theorem smW_one (x:Int×Int):smW [x]=x.2:=by simp[smW]
structure RunsQ (bit:Int→Bool) (k0:Int) (i:Nat) (s:List (Int×Int)×Bool):Prop where
 a:∀ r∈s.1,k0≤r.1∧1≤r.2∧r.1+r.2≤k0+i∧∀ k,r.1≤k→k<r.1+r.2→bit k=false
 b:s.1.Pairwise (fun x y=>x.1+x.2<y.1)
 c:s.2=true→∃ l r,s.1=l++[r]∧r.1+r.2=k0+i
 d:s.2=false→∀ r∈s.1,r.1+r.2<k0+i
 e:smW s.1=cntF bit k0 i
theorem runsF_q (bit:Int→Bool) (k0:Int) (h0:0≤k0) (h1:k0≤300):∀ i:Nat,i≤300→RunsQ bit k0 i (runsF bit k0 i)
 |0,_=>⟨by simp[runsF],by simp[runsF],by simp[runsF],by simp[runsF],by simp[runsF,smW,cntF]⟩
 |i+1,hi=>by
  have h:=runsF_q bit k0 h0 h1 i (by omega)
  generalize hs:runsF bit k0 i=s at h
  simp only[runsF,hs]
  by_cases hb:bit (k0+i)=true
  ·rw[if_pos hb]
   refine⟨fun r hr=>?_,h.b,fun q=>by simp at q,fun _ r hr=>?_,by simp only[cntF];rw[if_pos hb,h.e];omega⟩
   ·obtain⟨a,b,c,d⟩:=h.a r hr
    exact⟨a,b,by omega,d⟩
   ·have:=(h.a r hr).2.2.1
    omega
  rw[if_neg hb]
  have hbf:bit (k0+i)=false:=by simpa using hb
  by_cases ho:s.2=true
  ·rw[if_pos ho]
   obtain⟨l,r,hl,he⟩:=h.c ho
   have hr:=h.a r (by rw[hl];simp)
   have e1:s.1.getD (s.1.length-1) (0,0)=r:=by rw[hl];simp[List.getD_eq_getElem?_getD]
   have e2:s.1.set (s.1.length-1) (r.1,r.2+1)=l++[(r.1,r.2+1)]:=by rw[hl];simp
   rw[e1,wrap_in (n:=r.2+1) (by omega) (by omega),e2]
   have hp:=h.b
   rw[hl,List.pairwise_append] at hp
   have hq:=h.e
   rw[hl,smW_app,smW_one] at hq
   refine⟨fun x hx=>?_,?_,fun _=>⟨l,_,rfl,by simp only;omega⟩,fun q=>by simp at q,?_⟩
   ·rcases List.mem_append.1 hx with hx |hx
    ·obtain⟨a,b,c,d⟩:=h.a x (by rw[hl];simp[hx])
     exact⟨a,b,by omega,d⟩
    ·simp only[List.mem_singleton] at hx
     subst hx
     refine⟨hr.1,by simp only;omega,by simp only;omega,fun k hk1 hk2=>?_⟩
     simp only at hk1 hk2
     by_cases hk:k=k0+i
     ·rw[hk];exact hbf
     ·exact hr.2.2.2 k hk1 (by omega)
   ·rw[List.pairwise_append]
    refine⟨hp.1,by simp,fun x hx y hy=>?_⟩
    simp only[List.mem_singleton] at hy
    subst hy
    exact hp.2.2 x hx r (by simp)
   ·simp only[smW_app,smW_one,cntF]
    rw[if_neg hb];omega
  ·rw[if_neg ho]
   have hd:=h.d (by simpa using ho)
   refine⟨fun x hx=>?_,?_,fun _=>⟨s.1,_,rfl,by simp only;omega⟩,fun q=>by simp at q,?_⟩
   ·rcases List.mem_append.1 hx with hx |hx
    ·obtain⟨a,b,c,d⟩:=h.a x hx
     exact⟨a,b,by omega,d⟩
    ·simp only[List.mem_singleton] at hx
     subst hx
     refine⟨by simp only;omega,by simp only;omega,by simp only;omega,fun k hk1 hk2=>?_⟩
     simp only at hk1 hk2
     rw[show k=k0+i by omega];exact hbf
   ·rw[List.pairwise_append]
    refine⟨h.b,by simp,fun x hx y hy=>?_⟩
    simp only[List.mem_singleton] at hy
    subst hy
    exact hd x hx
   ·simp only[smW_app,smW_one,cntF]
    rw[if_neg hb,h.e]
theorem runsP_q {p:DPager} (hp:PagerV p):(∀ r∈runsP p,areaK p<r.1∧1≤r.2∧r.1+r.2≤(p.1.1.length:Int)∧∀ k,r.1≤k→k<r.1+r.2→bitP (areaP p) k=false)∧(runsP p).Pairwise (fun x y=>x.1+x.2<y.1) ∧
  smW (runsP p)=cntF (bitP (areaP p)) (areaK p+1) (p.1.1.length-1-(areaK p).toNat):=by
 have ha:=area_in hp
 have h:=runsF_q (bitP (areaP p)) (areaK p+1) (by omega) (by omega) (p.1.1.length-1-(areaK p).toNat) (by omega)
 refine⟨fun r hr=>?_,h.b,h.e⟩
 obtain⟨a,b,c,d⟩:=h.a r hr
 exact⟨by omega,b,by omega,d⟩
theorem smW_take (l:List (Int×Int)) (i:Nat) (x:Int×Int) (hx:l[i]?=some x):smW (l.take (i+1))=smW (l.take i)+x.2:=by
 rw[List.take_add_one,hx]
 simp[smW]
theorem smW_bd (c:Int) (hc:0≤c):∀ (l:List (Int×Int)),(∀ r∈l,0≤r.2∧r.2≤c)→0≤smW l∧smW l≤c*l.length
 |[],_=>by simp[smW]
 |r::l,h=>by
  have h1:=smW_bd c hc l (fun x hx=>h x (by simp[hx]))
  have h2:=h r (by simp)
  have e:smW (r::l)=r.2+smW l:=by simp[smW]
  have e2:c*((r::l).length:Int)=c*(l.length:Int)+c:=by simp[Int.mul_add]
  rw[e,e2];omega
def sumW (l:List (Int×Int)) (s:Int):Nat→Int
 |0=>s
 |i+1=>IntKind.i64.wrap (sumW l s i+(l.getD i (0,0)).2)
open Classical in
theorem impl_FreeCount_out (p:DPager) (hin:PagerIn p 1048576):impl_FreeCount p=some (if PagerV p then sumW (runsP p) 0 (runsP p).length else 0):=by
 unfold impl_FreeCount
 have hl:((if PagerV p then runsP p else []:List (Int×Int))).length≤1048576:=by
  split
  ·rename_i h;have:=runsP_len h;omega
  ·simp
 have he:(if PagerV p then sumW (runsP p) 0 (runsP p).length else 0)=sumW (if PagerV p then runsP p else []) 0 (if PagerV p then runsP p else []:List (Int×Int)).length:=by
  split <;> rfl
 rw[iFreeRuns_out p hin,obs,bind_some',he]
 generalize (if PagerV p then runsP p else []:List (Int×Int))=l at *
 unfold impl_FreeCount_l1
 refine loop_some l.length (fun i s=>s=(sumW l 0 i,(i:Int))) (fun i s hi hs=>?_) l.length 0 _ (by omega) rfl
 subst hs
 simp only[impl_FreeCount_l1_b]
 by_cases hn:i<l.length
 ·obtain⟨x,hx⟩:=get_at hn
  rw[if_pos (by omega),if_pos (by omega),Int.toNat_natCast,hx,obs,w1 (by omega)]
  exact .inr ⟨hn,_,rfl,by simp only[sumW,List.getD_eq_getElem?_getD,hx];rfl⟩
 ·have:i=l.length:=by omega
  subst this
  rw[if_neg (by omega)];exact .inl rfl
theorem sumW_eq (l:List (Int×Int)) (hl:l.length≤256) (hb:∀ r∈l,0≤r.2∧r.2≤256):∀ i,i≤l.length→sumW l 0 i=smW (l.take i)
 |0,_=>by simp[sumW,smW]
 |i+1,hi=>by
  obtain⟨x,hx⟩:=get_at (l:=l) (i:=i) (by omega)
  have hx2:=hb x (List.mem_of_getElem? hx)
  have ih:=sumW_eq l hl hb i (by omega)
  have hbd:=smW_bd 256 (by omega) (l.take i) (fun r hr=>hb r (List.mem_of_mem_take hr))
  rw[List.length_take] at hbd
  simp only[sumW]
  rw[smW_take l i x hx,ih,List.getD_eq_getElem?_getD,hx]
  simp only[Option.getD_some]
  rw[wrap_in (by omega) (by omega)]
theorem runsP_lim {p:DPager} (hp:PagerV p):(runsP p).length≤256∧∀ r∈runsP p,0≤r.2∧r.2≤256:=by
 refine⟨runsP_len hp,fun r hr=>?_⟩
 have h:=(runsP_q hp).1 r hr
 have:=area_in hp
 omega
theorem count_out {p:DPager} (hp:PagerV p):impl_FreeCount p=some (smW (runsP p)):=by
 obtain⟨h1,h2⟩:=runsP_lim hp
 rw[impl_FreeCount_out p hp.in1,if_pos hp,sumW_eq _ h1 h2 _ (Nat.le_refl _),List.take_length]
end Go.Proofs.TM
