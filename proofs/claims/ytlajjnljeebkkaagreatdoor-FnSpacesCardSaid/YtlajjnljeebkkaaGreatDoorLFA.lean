import Derived.Test.YtlajjnljeebkkaaGreatDoorTFun
import Derived.Test.YtlajjnljeebkkaaGreatDoorFS2
import Derived.Test.YtlajjnljeebkkaaGreatDoorTGlue
import Derived.Lib.ItoaLen
import Derived.Lib.Join
import Derived.Test.YtlajjnljeebkkaaGreatDoorTTxt
import Derived.Lib.ParseIntBTie
import Derived.Lib.ParseIntBCases
import Derived.Test.YtlajjnljeebkkaaGreatDoorTSpl
namespace Go.Proofs.TM
open Go Go.Proofs
theorem loop_some {σ ρ:Type} {f:σ→Option (σ ⊕ ρ)} {r:ρ} (n:Nat) (I:Nat→σ→Prop)
  (h:∀ i s,i≤n→I i s→f s=some (.inr r)∨(i<n∧∃ s',f s=some (.inl s')∧I (i+1) s')) :
  ∀ k i s,k+i=n→I i s→loopO f s=some r:=by
 intro k
 induction k with
 |zero =>
  intro i s hi hs
  rcases h i s (by omega) hs with h1 |⟨h1,_⟩
  ·rw[loopO_unfold,h1];rfl
  ·omega
 |succ k ih =>
  intro i s hi hs
  rcases h i s (by omega) hs with h1 |⟨h1,s',h2,h3⟩
  ·rw[loopO_unfold,h1];rfl
  ·rw[loopO_unfold,h2];exact ih (i+1) s' (by omega) h3
theorem loop_ex {σ ρ:Type} {f:σ→Option (σ ⊕ ρ)} (P:ρ→Prop) (n:Nat) (I:Nat→σ→Prop)
  (h:∀ i s,i≤n→I i s→(∃ r,f s=some (.inr r)∧P r)∨(i<n∧∃ s',f s=some (.inl s')∧I (i+1) s')) :
  ∀ k i s,k+i=n→I i s→∃ r,loopO f s=some r∧P r:=by
 intro k
 induction k with
 |zero =>
  intro i s hi hs
  rcases h i s (by omega) hs with ⟨r,h1,hp⟩ |⟨h1,_⟩
  ·exact⟨r,by rw[loopO_unfold,h1];rfl,hp⟩
  ·omega
 |succ k ih =>
  intro i s hi hs
  rcases h i s (by omega) hs with ⟨r,h1,hp⟩ |⟨h1,s',h2,h3⟩
  ·exact⟨r,by rw[loopO_unfold,h1];rfl,hp⟩
  ·obtain⟨r,hr,hp⟩:=ih (i+1) s' (by omega) h3
   exact⟨r,by rw[loopO_unfold,h2];exact hr,hp⟩
open Classical in
theorem loop_all {ρ:Type} (n:Nat) (p:Nat→Prop) (f:Int→Option (Int ⊕ ρ)) (rT rF:ρ)
  (h1:∀ i:Nat,i<n→p i→f (i:Int)=some (.inl ((i:Int)+1)))
  (h2:∀ i:Nat,i<n→¬p i→f (i:Int)=some (.inr rF))
  (h3:f (n:Int)=some (.inr rT)):loopO f 0=some (if ∀ i,i<n→p i then rT else rF):=by
 by_cases hp:∀ i,i<n→p i
 ·rw[if_pos hp]
  refine loop_some n (fun i s=>s=(i:Int)) (fun i s hi hs=>?_) n 0 0 (by omega) rfl
  subst hs
  by_cases hn:i<n
  ·exact .inr ⟨hn,_,h1 i hn (hp i hn),by omega⟩
  ·have:i=n:=by omega
   subst this;exact .inl h3
 ·rw[if_neg hp]
  refine loop_some n (fun i s=>s=(i:Int)∧∀ j,j<i→p j) (fun i s hi hs=>?_) n 0 0 (by omega) ⟨rfl,fun j hj=>by omega⟩
  obtain⟨rfl,hall⟩:=hs
  by_cases hn:i<n
  ·by_cases hpi:p i
   ·refine .inr ⟨hn,_,h1 i hn hpi,by omega,fun j hj=>?_⟩
    by_cases hji:j=i
    ·subst hji;exact hpi
    ·exact hall j (by omega)
   ·exact .inl (h2 i hn hpi)
  ·have:i=n:=by omega
   subst this;exact absurd hall hp
theorem all_get {α:Type} {l:List α} {P:α→Prop}:(∀ i,i<l.length→∀ x,l[i]?=some x→P x)↔∀ x∈l,P x:=by
 constructor
 ·intro h x hx
  obtain⟨i,hi,rfl⟩:=List.mem_iff_getElem.1 hx
  exact h i hi _ (List.getElem?_eq_getElem hi)
 ·intro h i hi x hx
  exact h x (List.mem_of_getElem? hx)
theorem loop_find {α ρ:Type} (l:List α) (p:α→Prop) (f:Int→Option (Int ⊕ (ρ ⊕ Int))) (rT:ρ)
  (h1:∀ (i:Nat) x,i<l.length→l[i]?=some x→p x→f (i:Int)=some (.inl ((i:Int)+1)))
  (h2:∀ (i:Nat) x,i<l.length→l[i]?=some x→¬p x→f (i:Int)=some (.inr (.inr (i:Int))))
  (h3:f (l.length:Int)=some (.inr (.inl rT))) :
  ∃ r,loopO f 0=some r∧((r=.inl rT∧∀ x∈l,p x)∨(∃ k:Int,r=.inr k∧0≤k∧¬∀ x∈l,p x)):=by
 refine loop_ex _ l.length (fun i s=>s=(i:Int)∧∀ j,j<i→∀ x,l[j]?=some x→p x) (fun i s hi hs=>?_) l.length 0 0 (by omega) ⟨rfl,fun j hj=>by omega⟩
 obtain⟨rfl,hall⟩:=hs
 by_cases hn:i<l.length
 ·obtain⟨x,hx⟩:∃ x,l[i]?=some x:=⟨_,List.getElem?_eq_getElem hn⟩
  by_cases hpi:p x
  ·refine .inr ⟨hn,_,h1 i x hn hx hpi,by omega,fun j hj y hy=>?_⟩
   by_cases hji:j=i
   ·subst hji;rw[hx] at hy;cases hy;exact hpi
   ·exact hall j (by omega) y hy
  ·refine .inl ⟨_,h2 i x hn hx hpi,.inr ⟨i,rfl,by omega,fun h=>hpi (h x (List.mem_of_getElem? hx))⟩⟩
 ·have:i=l.length:=by omega
  subst this
  exact .inl ⟨_,h3,.inl ⟨rfl,all_get.1 hall⟩⟩
open Classical in
theorem loop_eq {α ρ:Type} (l m:List α) (hl:l.length=m.length) (f:Int→Option (Int ⊕ ρ)) (rT rF:ρ)
  (h1:∀ (i:Nat) x,i<l.length→l[i]?=some x→m[i]?=some x→f (i:Int)=some (.inl ((i:Int)+1)))
  (h2:∀ (i:Nat) x y,i<l.length→l[i]?=some x→m[i]?=some y→¬x=y→f (i:Int)=some (.inr rF))
  (h3:f (l.length:Int)=some (.inr rT)):loopO f 0=some (if l=m then rT else rF):=by
 rw[loop_all l.length (fun i=>l[i]?=m[i]?) f rT rF ?_ ?_ h3]
 ·have:(∀ i,i<l.length→l[i]?=m[i]?)↔l=m:=by
   constructor
   ·intro h
    apply List.ext_getElem?
    intro j
    by_cases hj:j<l.length
    ·exact h j hj
    ·rw[List.getElem?_eq_none (by omega),List.getElem?_eq_none (by omega)]
   ·rintro rfl i hi;rfl
  simp only[this]
 ·intro i hi hp
  obtain⟨x,hx⟩:∃ x,l[i]?=some x:=⟨_,List.getElem?_eq_getElem hi⟩
  exact h1 i x hi hx (by rw[← hp,hx])
 ·intro i hi hp
  obtain⟨x,hx⟩:∃ x,l[i]?=some x:=⟨_,List.getElem?_eq_getElem hi⟩
  obtain⟨y,hy⟩:∃ y,m[i]?=some y:=⟨_,List.getElem?_eq_getElem (by omega)⟩
  exact h2 i x y hi hx hy (fun h=>hp (by rw[hx,hy,h]))
theorem wrap_in {n:Int} (h:-9223372036854775808≤n) (h':n≤9223372036854775807):IntKind.i64.wrap n=n:=by rw[IntKind.wrap_i64];omega
theorem get_at {α:Type} {l:List α} {i:Nat} (h:i<l.length):∃ x,l[i]?=some x:=⟨_,List.getElem?_eq_getElem h⟩
theorem mkL_ok {α:Type} (bs n:Nat) (z:α) (h:n*bs≤maxRow) (h':n≤maxRow):mkL bs (n:Int) (n:Int) z=some (List.replicate n z):=by
 unfold mkL;rw[if_pos ⟨by omega,rfl,by simpa using h,by simpa using h'⟩];simp
theorem appL_nil {α:Type} (bs:Nat) (l:List α) (h:l.length*(bs+1)≤maxRow):appL bs [] l=some l:=by
 unfold appL;rw[if_pos (by simpa using h)];simp
theorem w1 {i:Nat} (h:i<9223372036854775807):IntKind.i64.wrap ((i:Int)+1)=(i:Int)+1:=wrap_in (by omega) (by omega)
theorem dF {Q:Prop} {d:Decidable Q} (h:¬Q):some false=some (@decide Q d):=by rw[decide_eq_false h]
theorem dT {Q:Prop} {d:Decidable Q} (h:Q):some true=some (@decide Q d):=by rw[decide_eq_true h]
theorem dI {P Q:Prop} {d:Decidable P} {d':Decidable Q} (h:P↔Q):some (@decide P d)=some (@decide Q d'):=by
 by_cases hp:P
 ·rw[decide_eq_true hp,decide_eq_true (h.1 hp)]
 ·rw[decide_eq_false hp,decide_eq_false (fun q=>hp (h.2 q))]
theorem dT' {Q:Prop} {d:Decidable Q} (h:Q):some (@decide Q d)=some true:=(dT h).symm
theorem subL_from {α:Type} (s:List α) (k:Nat) (h:k≤s.length):subL s (some (k:Int)) none=some (s.drop k):=by
 simp[subL,bound,h]
theorem subL_to {α:Type} (s:List α) (k:Nat) (h:k≤s.length):subL s none (some (k:Int))=some (s.take k):=by
 simp[subL,bound,h]
theorem subL_mid {α:Type} (s:List α) (a b:Nat) (h:a≤b) (h':b≤s.length):subL s (some (a:Int)) (some (b:Int))=some ((s.take b).drop a):=by
 simp[subL,bound,h,h']
theorem l00In_out (n a b:Int):spec_l00In n a b=some (decide (a≤n∧n≤b)):=by
 unfold spec_l00In
 by_cases h:n≥a
 ·rw[if_pos h];exact dI ⟨fun k=>⟨h,k⟩,fun k=>k.2⟩
 ·rw[if_neg h];exact dF fun k=>h k.1
theorem within_out (n a b:Int):impl_within n a b=some (decide (a≤n∧n≤b)):=by
 unfold impl_within
 by_cases h:n≥a
 ·rw[if_pos h];exact dI ⟨fun k=>⟨h,k⟩,fun k=>k.2⟩
 ·rw[if_neg h];exact dF fun k=>h k.1
theorem join_le (B:Nat) (sep:Str) (xs:List Str) (h:∀ x∈xs,x.length≤B):(Lib.join xs sep).length≤xs.length*(B+sep.length):=by
 have ht:∀ r:List Str,(∀ x∈r,x.length≤B)→(Lib.joinTail sep r).length≤r.length*(B+sep.length):=by
  intro r
  induction r with
  |nil=>intro _;simp[Lib.joinTail]
  |cons y r ih =>
   intro hr
   have h1:=ih (fun x hx=>hr x (List.mem_cons_of_mem _ hx))
   have h2:=hr y List.mem_cons_self
   simp only[Lib.joinTail,List.map_cons,List.flatten_cons,List.length_append,List.length_cons] at h1 ⊢
   rw[Nat.succ_mul]
   omega
 cases xs with
 |nil=>simp[Lib.join_nil]
 |cons x r =>
  have h1:=ht r (fun x hx=>h x (List.mem_cons_of_mem _ hx))
  have h2:=h x List.mem_cons_self
  rw[Lib.join_cons,List.length_append,List.length_cons,Nat.succ_mul]
  omega
theorem appL_one {β:Type} (bs:Nat) (l:List β) (x:β) (h:(l.length+1)*(bs+1)≤maxRow):appL bs l (lit [x])=some (l++[x]):=by
 unfold appL lit;rw[if_pos (by simpa using h)]
theorem itoa_le (n:Int) (h0:-9223372036854775808≤n) (h1:n≤9223372036854775807):(Lib.itoa n).length≤21:=Lib.itoa_length_le n h0 h1
theorem dig_toNat (k:Nat) (h:k<10):(UInt8.ofNat (48+k)).toNat=48+k:=by
 rw[UInt8.toNat_ofNat'];omega
theorem parseM_dec (r:List UInt8) (u:Nat):u≤2 ^ 64-1→Lib.parseUintM (2 ^ 64-1) 0 (Lib.decDigits u++r)=Lib.parseUintM (2 ^ 64-1) u r:=by
 induction u using Nat.strongRecOn generalizing r with
 |_ u ih =>
  intro hu
  by_cases h:u<10
  ·rw[Lib.decDigits_one h]
   simp only[List.cons_append,List.nil_append]
   rw[Lib.parseUintM,dig_toNat u h,if_pos (by omega),if_neg (by omega),if_neg (by omega)]
   congr 1;omega
  ·rw[show Lib.decDigits u=Lib.decDigits (u / 10)++[UInt8.ofNat (48+u % 10)] by rw[Lib.decDigits,dif_neg h],List.append_assoc,ih (u / 10) (by omega) _ (by omega)]
   simp only[List.cons_append,List.nil_append]
   rw[Lib.parseUintM,dig_toNat _ (by omega),if_pos (by omega),if_neg (by omega),if_neg (by omega)]
   congr 1;omega
theorem dec_ne (u:Nat):∃ (k:Nat) (t:List UInt8),k<10∧Lib.decDigits u=UInt8.ofNat (48+k)::t:=by
 induction u using Nat.strongRecOn with
 |_ u ih =>
  by_cases h:u<10
  ·exact⟨u,[],h,Lib.decDigits_one h⟩
  ·obtain⟨k,t,hk,e⟩:=ih (u / 10) (by omega)
   exact⟨k,t++[UInt8.ofNat (48+u % 10)],hk,by rw[Lib.decDigits,dif_neg h,e];rfl⟩
theorem parse_itoa (n:Int) (h0:-9223372036854775808≤n) (h1:n≤9223372036854775807):Lib.parseIntB 64 (Lib.itoa n)=.ok n:=by
 have hU:∀ u:Nat,u≤9223372036854775808→Lib.parseUintB 64 (Lib.decDigits u)=.ok u:=fun u hu=>by
  obtain⟨k,t,hk,e⟩:=dec_ne u
  unfold Lib.parseUintB
  rw[if_neg (by rw[e];simp),show Lib.decDigits u=Lib.decDigits u++[] by simp,parseM_dec [] u (by omega)]
  rfl
 unfold Lib.itoa
 by_cases hn:n<0
 ·rw[if_pos hn,Lib.parseIntB_minus,hU _ (by omega)]
  simp only[Lib.signedC]
  rw[if_neg (by omega)]
  congr 1;omega
 ·rw[if_neg hn]
  obtain⟨k,t,hk,e⟩:=dec_ne n.toNat
  have hk':=dig_toNat k hk
  have:=hU n.toNat (by omega)
  rw[e] at this ⊢
  rw[Lib.parseIntB_plain _ _ _ (by omega) (by omega),this]
  simp only[Lib.signlessC]
  rw[if_neg (by omega)]
  congr 1;omega
theorem rdecS_itoa (n:Int) (h0:-9223372036854775808≤n) (h1:n≤9223372036854775807):rdecS (Lib.itoa n)=some (n,true):=by
 unfold rdecS
 have:=Lib.itoa_length_le n h0 h1
 rw[if_pos (by omega),parse_itoa n h0 h1]
 simp
def isD (b:UInt8):Prop:=48≤b.toNat∧b.toNat≤57
instance (b:UInt8):Decidable (isD b):=by unfold isD;infer_instance
def numF (l:Str):Nat:=l.foldl (fun a b=>10*a+(b.toNat-48)) 0
theorem numF_snoc (l:Str) (b:UInt8):numF (l++[b])=10*numF l+(b.toNat-48):=by unfold numF;rw[List.foldl_append];rfl
theorem dec_dig (u:Nat):(∀ b∈Lib.decDigits u,isD b)∧numF (Lib.decDigits u)=u:=by
 induction u using Nat.strongRecOn with
 |_ u ih =>
  have hd:∀ k,k<10→(UInt8.ofNat (48+k)).toNat=48+k:=fun k hk=>by rw[UInt8.toNat_ofNat'];omega
  by_cases h:u<10
  ·rw[Lib.decDigits_one h]
   have:=hd u h
   refine⟨fun b hb=>?_,?_⟩
   ·simp only[List.mem_singleton] at hb;subst hb;unfold isD;omega
   ·show 10*0+((UInt8.ofNat (48+u)).toNat-48)=u;omega
  ·obtain⟨h1,h2⟩:=ih (u / 10) (by omega)
   have h3:=hd (u % 10) (by omega)
   rw[show Lib.decDigits u=Lib.decDigits (u / 10)++[UInt8.ofNat (48+u % 10)] by rw[Lib.decDigits,dif_neg h]]
   refine⟨fun b hb=>?_,?_⟩
   ·rcases List.mem_append.1 hb with hb |hb
    ·exact h1 b hb
    ·simp only[List.mem_singleton] at hb;subst hb;unfold isD;omega
   ·rw[numF_snoc,h2,h3];omega
theorem itoa_nat {n:Int} (h:0≤n):Lib.itoa n=Lib.decDigits n.toNat:=by unfold Lib.itoa;rw[if_neg (by omega)]
theorem itoa_dig {n:Int} (h0:0≤n):∀ b∈Lib.itoa n,isD b:=by rw[itoa_nat h0];exact (dec_dig _).1
abbrev DScan:=Str×Bool
def nc (b:UInt8):Prop:=isD b∨b.toNat=45
instance (b:UInt8):Decidable (nc b):=by unfold nc;infer_instance
theorem nc_out (b:UInt8):impl_scanner_number_c1 (b.toNat:Int)=some (decide (nc b)):=by
 unfold impl_scanner_number_c1 impl_isDigit
 by_cases h1:(b.toNat:Int)≥48
 ·rw[if_pos h1,obs]
  by_cases h2:(b.toNat:Int)≤57
  ·rw[if_pos (by simpa using h2)];exact dT (show nc b from .inl ⟨by omega,by omega⟩)
  ·rw[if_neg (by simpa using h2)]
   exact dI (by unfold nc isD;omega)
 ·rw[if_neg h1,obs,if_neg (by simp)]
  exact dI (by unfold nc isD;omega)
def spn:Str→Str×Str
 |[]=>([],[])
 |x::r=>if nc x then (x::(spn r).1,(spn r).2) else ([],x::r)
theorem spn_eq (r:Str):(spn r).1++(spn r).2=r∧(∀ b∈(spn r).1,nc b)∧∀ x t,(spn r).2=x::t→¬nc x:=by
 induction r with
 |nil=>exact⟨rfl,by simp[spn],by simp[spn]⟩
 |cons x r ih =>
  obtain⟨h1,h2,h3⟩:=ih
  unfold spn
  by_cases hx:nc x
  ·rw[if_pos hx]
   exact⟨by simp[h1],fun b hb=>by rcases List.mem_cons.1 hb with rfl |hb;exact hx;exact h2 b hb,h3⟩
  ·rw[if_neg hx]
   exact⟨rfl,by simp,fun y t e=>by cases e;exact hx⟩
theorem spn_of (a t:Str) (ha:∀ b∈a,nc b) (ht:∀ x r,t=x::r→¬nc x):spn (a++t)=(a,t):=by
 induction a with
 |nil =>
  cases t with
  |nil=>rfl
  |cons x r=>rw[List.nil_append,spn,if_neg (ht x r rfl)]
 |cons x a ih =>
  rw[List.cons_append,spn,if_pos (ha x List.mem_cons_self),ih (fun b hb=>ha b (List.mem_cons_of_mem _ hb))]
theorem take_of {a t s:Str} (h:a++t=s):s.take a.length=a:=by subst h;simp
theorem drop_of {a t s:Str} (h:a++t=s):s.drop a.length=t:=by subst h;simp
theorem while_out (s:Str) (b:Bool) (h:s.length≤1048576):impl_scanner_while_o53 (s,b)=some (((spn s).2,b),(spn s).1):=by
 obtain⟨h1,h2,h3⟩:=spn_eq s
 unfold impl_scanner_while_o53 impl_scanner_while_o53_l1
 have hl:(spn s).1.length≤s.length:=by have:=congrArg List.length h1;rw[List.length_append] at this;omega
 rw[loop_some (r:=((s,b),((spn s).1.length:Int))) (spn s).1.length (fun i k=>k=(i:Int)) (fun i k hi hk=>?_) (spn s).1.length 0 0 (by omega) rfl,obs,subL_to s _ hl,obs,subL_from s _ hl,obs]
 ·have e1:=take_of h1
  have e2:=drop_of h1
  rw[e1,e2]
 ·subst hk
  unfold impl_scanner_while_o53_l1_b
  simp only
  by_cases hn:i<(spn s).1.length
  ·obtain⟨x,hx⟩:=get_at hn
   have hx':s[i]?=some x:=by rw[← h1,List.getElem?_append_left hn,hx]
   rw[if_pos (by omega),if_pos (by omega),Int.toNat_natCast,hx',obs,nc_out,obs,if_pos (by simpa using h2 x (List.mem_of_getElem? hx)),w1 (by omega)]
   exact .inr ⟨hn,_,rfl,by omega⟩
  ·have hi:i=(spn s).1.length:=by omega
   refine .inl ?_
   by_cases hns:i<s.length
   ·obtain⟨x,hx⟩:=get_at hns
    have hq:(spn s).2[0]?=some x:=by
     have e:((spn s).1++(spn s).2)[i]?=s[i]?:=by rw[h1]
     rw[List.getElem?_append_right (by omega),show i-(spn s).1.length=0 by omega,hx] at e
     exact e
    have hnx:¬nc x:=by
     cases e:(spn s).2 with
     |nil=>rw[e] at hq;cases hq
     |cons y t=>rw[e] at hq;cases hq;exact h3 _ _ e
    rw[if_pos (by omega),if_pos (by omega),Int.toNat_natCast,hx,obs,nc_out,obs,if_neg (by simpa using hnx),hi]
   ·rw[if_neg (by omega),hi]
theorem itoa_ne (n:Int):Lib.itoa n≠[]:=by
 unfold Lib.itoa
 split
 ·simp
 ·obtain⟨k,t,hk,e⟩:=dec_ne n.toNat;rw[e];simp
theorem nc_itoa {n:Int} (h:0≤n):∀ b∈Lib.itoa n,nc b:=fun b hb=>.inl (itoa_dig h b hb)
theorem number_itoa (n:Int) (t:Str) (b:Bool) (h0:0≤n) (hn:n≤9223372036854775807) (ht:∀ x r,t=x::r→¬nc x) (h:(Lib.itoa n++t).length≤1048576):impl_scanner_number_od0 (Lib.itoa n++t,b)=some ((t,b),n):=by
 unfold impl_scanner_number_od0
 rw[while_out _ b h,obs,spn_of _ t (nc_itoa h0) ht]
 have hr:impl_readDecimal (Lib.itoa n)=some (n,true):=rdecS_itoa n (by omega) hn
 simp only
 rw[hr,obs,if_neg (by simp)]
theorem accept_out (s t:Str) (b:Bool) (h:s.length≤1048576):impl_scanner_accept_o0b (s,b) t=some (if t.length≤s.length∧s.take t.length=t then ((s.drop t.length,b),true) else ((s,b),false)):=by
 unfold impl_scanner_accept_o0b strings_CutPrefix internal_stringslite_CutPrefix internal_stringslite_HasPrefix
 by_cases hl:t.length≤s.length
 ·rw[if_pos (by simp only;omega),subL_to s _ hl,obs,obs]
  by_cases he:s.take t.length=t
  ·rw[if_neg (by simp[he]),if_pos ⟨hl,he⟩,subL_from s _ hl];rfl
  ·rw[if_pos (by simpa using he),if_neg (fun hh=>he hh.2)];rfl
 ·rw[if_neg (by simp only;omega),if_neg (fun hh=>hl hh.1)];rfl
theorem accept_hit (t r:Str) (b:Bool) (h:(t++r).length≤1048576):impl_scanner_accept_o0b (t++r,b) t=some ((r,b),true):=by
 rw[accept_out _ _ _ h,if_pos ⟨by simp,by simp⟩];simp
theorem accept_miss (s t:Str) (b:Bool) (h:s.length≤1048576) (hm:s.take t.length≠t):impl_scanner_accept_o0b (s,b) t=some ((s,b),false):=by
 rw[accept_out _ _ _ h,if_neg (fun hh=>hm hh.2)]
theorem expect_hit (t r:Str) (b:Bool) (h:(t++r).length≤1048576):impl_scanner_expect_o0b (t++r,b) t=some (r,b):=by
 unfold impl_scanner_expect_o0b
 rw[accept_hit t r b h,obs,if_neg (by simp)]
theorem allWithin_out (x:List Int) (a b:Int) (h:x.length≤140737488355328):∃ c,impl_allWithin x a b=some c∧(c=true↔∀ y∈x,a≤y∧y≤b):=by
 unfold impl_allWithin slices_ContainsFunc_int64_int64__allWithin_c1 slices_IndexFunc_int64_int64__allWithin_c1 slices_IndexFunc_int64_int64__allWithin_c1_l1
 obtain⟨r,hr,hx⟩:=loop_find x (fun y=>a≤y∧y≤b) (fun s=>slices_IndexFunc_int64_int64__allWithin_c1_l1_b x a b (x.length:Int) s) () (fun k y hk hy hp=>by
  unfold slices_IndexFunc_int64_int64__allWithin_c1_l1_b impl_allWithin_c1
  rw[if_pos (by omega),if_pos (by omega),Int.toNat_natCast,hy,obs,within_out,obs,obs,if_neg (by simpa using hp),w1 (by omega)]) (fun k y hk hy hp=>by
  unfold slices_IndexFunc_int64_int64__allWithin_c1_l1_b impl_allWithin_c1
  rw[if_pos (by omega),if_pos (by omega),Int.toNat_natCast,hy,obs,within_out,obs,obs,if_pos (by rw[decide_eq_false hp];simp)]) (by simp[slices_IndexFunc_int64_int64__allWithin_c1_l1_b])
 rw[hr]
 rcases hx with ⟨rfl,hall⟩ |⟨k,rfl,hk,hn⟩
 ·exact⟨true,rfl,by simpa using hall⟩
 ·exact⟨false,by simp[hk],by simpa using hn⟩
def prodW (l:List Int):Int:=l.foldl (fun a x=>IntKind.i64.wrap (a*x)) 1
theorem prodW_snoc (l:List Int) (x:Int):prodW (l++[x])=IntKind.i64.wrap (prodW l*x):=by unfold prodW;rw[List.foldl_append];rfl
def VD (l:List Int):Prop:=l.length≤3∧(∀ x∈l,0≤x∧x≤40)∧prodW l≤600
theorem sDims_out (l:List Int):∃ b,spec_l05Dims l=some b∧(b=true↔VD l):=by
 unfold spec_l05Dims spec_l05Dims_l1 VD
 by_cases h3:(l.length:Int)>3
 ·rw[if_pos h3];exact⟨false,rfl,by simp;omega⟩
 rw[if_neg h3]
 have key:=loop_ex (f:=fun s:Int×Int=>spec_l05Dims_l1_b l s.1 s.2) (fun r=>(r=.inl (prodW l)∧∀ x∈l,0≤x∧x≤40)∨(r=.inr false∧¬∀ x∈l,0≤x∧x≤40)) l.length (fun i s=>s.2=(i:Int)∧s.1=prodW (l.take i)∧∀ j,j<i→∀ x,l[j]?=some x→0≤x∧x≤40) (fun i s hi hs=>?_) l.length 0 (1,0) (by omega) ⟨rfl,by simp[prodW],fun j hj=>by omega⟩
 ·obtain⟨r,hr,hP⟩:=key
  rw[hr,obs]
  rcases hP with ⟨rfl,ha⟩ |⟨rfl,ha⟩
  ·exact⟨_,rfl,by rw[decide_eq_true_eq];exact⟨fun h=>⟨by omega,ha,h⟩,fun h=>h.2.2⟩⟩
  ·exact⟨false,rfl,by simp only[Bool.false_eq_true,false_iff];exact fun h=>ha h.2.1⟩
 ·obtain⟨p,k⟩:=s
  obtain⟨rfl,rfl,hall⟩:=hs
  unfold spec_l05Dims_l1_b
  by_cases hn:i<l.length
  ·obtain⟨x,hx⟩:=get_at hn
   simp only
   rw[if_pos (by omega),if_pos (by omega),Int.toNat_natCast,hx,obs,l00In_out,obs]
   by_cases hp:0≤x∧x≤40
   ·rw[if_neg (by simpa using hp),if_pos (by omega),obs,w1 (by omega)]
    refine .inr ⟨hn,_,rfl,rfl,?_,fun j hj y hy=>?_⟩
    ·rw[List.take_add_one,hx];simp only[Option.toList_some];rw[prodW_snoc]
    ·by_cases hji:j=i
     ·subst hji;rw[hx] at hy;cases hy;exact hp
     ·exact hall j (by omega) y hy
   ·rw[if_pos (by rw[decide_eq_false hp];simp)]
    exact .inl ⟨_,rfl,.inr ⟨rfl,fun h=>hp (h x (List.mem_of_getElem? hx))⟩⟩
  ·have:i=l.length:=by omega
   subst this
   simp only
   rw[if_neg (by omega),List.take_length]
   exact .inl ⟨_,rfl,.inl ⟨rfl,all_get.1 hall⟩⟩
theorem iProd_out (l:List Int) (h:l.length≤1048576):impl_product l=some (prodW l):=by
 unfold impl_product impl_product_l1
 rw[loop_some (r:=prodW l) l.length (fun i s=>s.2=(i:Int)∧s.1=prodW (l.take i)) (fun i s hi hs=>?_) l.length 0 (1,0) (by omega) ⟨rfl,by simp[prodW]⟩]
 ·rfl
 ·obtain⟨p,k⟩:=s
  obtain⟨rfl,rfl⟩:=hs
  unfold impl_product_l1_b
  by_cases hn:i<l.length
  ·obtain⟨x,hx⟩:=get_at hn
   simp only
   rw[if_pos (by omega),if_pos (by omega),Int.toNat_natCast,hx,obs,w1 (by omega)]
   refine .inr ⟨hn,_,rfl,rfl,?_⟩
   rw[List.take_add_one,hx];simp only[Option.toList_some];rw[prodW_snoc]
  ·have:i=l.length:=by omega
   subst this
   simp only
   rw[if_neg (by omega),List.take_length]
   exact .inl rfl
theorem iDims_out (l:List Int):∃ b,impl_ValidDims l=some b∧(b=true↔VD l):=by
 unfold impl_ValidDims VD
 by_cases h3:(l.length:Int)≤3
 ·rw[if_pos h3]
  obtain⟨c,hc,hx⟩:=allWithin_out l 0 40 (by omega)
  rw[hc,obs]
  cases c with
  |false=>exact⟨false,by simp,by simp only[Bool.false_eq_true,false_iff] at hx ⊢;exact fun h=>hx h.2.1⟩
  |true =>
   rw[if_pos rfl,iProd_out l (by omega),obs]
   exact⟨_,rfl,by rw[decide_eq_true_eq];exact⟨fun h=>⟨by omega,hx.1 rfl,h⟩,fun h=>h.2.2⟩⟩
 ·rw[if_neg h3];exact⟨false,rfl,by simp only[Bool.false_eq_true,false_iff];exact fun h=>h3 (by omega)⟩
def prodP:List Int→Int
 |[]=>1
 |d::ds=>d*prodP ds
theorem prodW_P {l:List Int} (h:l.length≤3) (h0:∀ x∈l,0≤x∧x≤40):prodW l=prodP l:=by
 match l,h with
 |[],_=>rfl
 |[a],_ =>
  have:=h0 a (by simp)
  simp only[prodW,prodP,List.foldl,Int.one_mul,Int.mul_one]
  exact wrap_in (by omega) (by omega)
 |[a,b],_ =>
  have ha:=h0 a (by simp)
  have hb:=h0 b (by simp)
  have h1:0≤a*b:=Int.mul_nonneg ha.1 hb.1
  have h2:a*b≤40*40:=Int.mul_le_mul ha.2 hb.2 hb.1 (by omega)
  simp only[prodW,prodP,List.foldl,Int.one_mul,Int.mul_one]
  rw[wrap_in (show -9223372036854775808≤a by omega) (by omega)]
  exact wrap_in (by omega) (by omega)
 |[a,b,c],_ =>
  have ha:=h0 a (by simp)
  have hb:=h0 b (by simp)
  have hc:=h0 c (by simp)
  have h1:0≤a*b:=Int.mul_nonneg ha.1 hb.1
  have h2:a*b≤40*40:=Int.mul_le_mul ha.2 hb.2 hb.1 (by omega)
  have h3:0≤a*b*c:=Int.mul_nonneg h1 hc.1
  have h4:a*b*c≤40*40*40:=Int.mul_le_mul h2 hc.2 hc.1 (by omega)
  simp only[prodW,prodP,List.foldl,Int.one_mul,Int.mul_one]
  rw[wrap_in (show -9223372036854775808≤a by omega) (by omega),wrap_in (show -9223372036854775808≤a*b by omega) (by omega),wrap_in (show -9223372036854775808≤a*b*c by omega) (by omega),Int.mul_assoc]
theorem prodP_nonneg {l:List Int} (h0:∀ x∈l,0≤x):0≤prodP l:=by
 induction l with
 |nil=>exact Int.zero_le_ofNat 1
 |cons a l ih=>exact Int.mul_nonneg (h0 a (by simp)) (ih fun x hx=>h0 x (by simp[hx]))
theorem prodP_pos {l:List Int} (h0:∀ x∈l,0≤x) (h:0<prodP l):∀ x∈l,0<x:=by
 induction l with
 |nil=>simp
 |cons a l ih =>
  have ha:=h0 a (by simp)
  have hl:=prodP_nonneg (l:=l) fun x hx=>h0 x (by simp[hx])
  unfold prodP at h
  have h1:a≠0:=fun e=>by subst e;simp at h
  have h2:prodP l≠0:=fun e=>by rw[e] at h;simp at h
  intro x hx
  rcases List.mem_cons.1 hx with rfl |hx
  ·omega
  ·exact ih (fun x hx=>h0 x (by simp[hx])) (by omega) x hx
theorem coordG_nonneg {l:List Int} (h:∀ x∈l,0<x) {i:Int} (hi:0≤i):0≤(coordG l i).2∧(coordG l i).2≤i:=by
 induction l with
 |nil=>exact⟨hi,Int.le_refl _⟩
 |cons a l ih =>
  have h1:=ih fun x hx=>h x (by simp[hx])
  exact⟨Int.ediv_nonneg h1.1 (Int.le_of_lt (h a (by simp))),Int.le_trans (Int.ediv_le_self _ h1.1) h1.2⟩
theorem coordG_lt {l:List Int} (h:∀ x∈l,0<x) {i:Int}:∀ m,i<prodP l*m→(coordG l i).2<m:=by
 induction l with
 |nil=>intro m hm;simpa [prodP,coordG] using hm
 |cons a l ih =>
  intro m hm
  have h1:=ih (fun x hx=>h x (by simp[hx])) (m*a) (by unfold prodP at hm;rw[Int.mul_comm m a,← Int.mul_assoc,Int.mul_comm (prodP l) a];exact hm)
  exact Int.ediv_lt_of_lt_mul (h a (by simp)) h1
theorem coordG_zero {l:List Int} (h:∀ x∈l,0<x) {i:Int} (hi:0≤i) (hl:i<prodP l):(coordG l i).2=0:=by
 have h1:=coordG_lt h 1 (i:=i) (by omega)
 have h2:=coordG_nonneg h hi
 omega
theorem coordG_at {l:List Int} {i:Int} {j:Nat} {d:Int} (hd:l[j]?=some d):(coordG l i).1[j]?=some ((coordG (l.drop (j+1)) i).2 % d)∧(coordG (l.drop j) i).2=(coordG (l.drop (j+1)) i).2 / d:=by
 induction l generalizing j with
 |nil=>simp at hd
 |cons a l ih =>
  cases j with
  |zero=>simp at hd;subst hd;exact⟨rfl,rfl⟩
  |succ j=>exact ih (by simpa using hd)
theorem coordL_at {l:List Int} (h:∀ x∈l,0<x) {i:Int} {j:Nat} {d:Int} (hd:l[j]?=some d):∃ a,(coordL l i)[j]?=some a∧0≤a∧a<d:=by
 have hp:=h d (List.mem_of_getElem? hd)
 exact⟨_,(coordG_at hd).1,Int.emod_nonneg _ (by omega),Int.emod_lt_of_pos _ hp⟩
theorem coordL_len (l:List Int) (i:Int):(coordL l i).length=l.length:=coordG_len l i
theorem inDims_out {l:List Int} (h:∀ x∈l,0<x) (h':∀ x∈l,x≤40) (hl:l.length≤3) (i:Int):impl_inDims l (coordL l i)=some true:=by
 unfold impl_inDims impl_inDims_l1
 rw[if_neg (by rw[coordL_len];exact not_not_intro rfl),loop_some (r:=.inl ()) l.length (fun k s=>s=(k:Int)) (fun k s hk hs=>?_) l.length 0 0 (by omega) rfl,obs]
 ·rfl
 subst hs
 unfold impl_inDims_l1_b
 by_cases hn:k<l.length
 ·obtain⟨d,hd⟩:=get_at hn
  obtain⟨a,ha,a0,a1⟩:=coordL_at h (i:=i) hd
  have:=h' d (List.mem_of_getElem? hd)
  have e:IntKind.i64.wrap (d-1)=d-1:=wrap_in (by omega) (by omega)
  rw[if_pos (by rw[coordL_len];omega),if_pos (by omega),Int.toNat_natCast,ha,obs,if_pos (by omega),hd,obs,e,within_out,obs,if_neg (by rw[decide_eq_true ⟨a0,by omega⟩];simp),w1 (by omega)]
  exact .inr ⟨hn,_,rfl,by push_cast;rfl⟩
 ·have:k=l.length:=by omega
  subst this
  rw[if_neg (by rw[coordL_len];omega)];exact .inl rfl
theorem indexI_out {l:List Int} (h:∀ x∈l,0<x) (hl:l.length≤3) {i:Int} (hi:0≤i) (hi':i≤600) (hp:i<prodP l):impl_indexOf l (coordL l i)=some i:=by
 unfold impl_indexOf impl_indexOf_l1
 rw[loop_some (r:=i) l.length (fun k s=>s=((coordG (l.drop k) i).2,(k:Int))) (fun k s hk hs=>?_) l.length 0 (0,0) (by omega) (by rw[List.drop_zero,coordG_zero h hi hp];rfl),obs]
 subst hs
 unfold impl_indexOf_l1_b
 simp only
 by_cases hn:k<l.length
 ·obtain⟨d,hd⟩:=get_at hn
  have hdp:=h d (List.mem_of_getElem? hd)
  obtain⟨e1,e2⟩:=coordG_at (i:=i) hd
  have hr:=coordG_nonneg (l:=l.drop (k+1)) (fun x hx=>h x (List.mem_of_mem_drop hx)) hi
  obtain⟨r,hrr⟩:∃ r,(coordG (l.drop (k+1)) i).2=r:=⟨_,rfl⟩
  rw[hrr] at e1 e2 hr
  have hm:=Int.ediv_mul_add_emod r d
  have hm0:=Int.emod_nonneg r (show d≠0 by omega)
  have hq:0≤r / d*d:=Int.mul_nonneg (Int.ediv_nonneg hr.1 (by omega)) (by omega)
  have w0:IntKind.i64.wrap (r / d*d)=r / d*d:=wrap_in (by omega) (by omega)
  have w2:IntKind.i64.wrap (r / d*d+r % d)=r:=by rw[hm];exact wrap_in (by omega) (by omega)
  have hc:(coordL l i)[k]?=some (r % d):=e1
  rw[if_pos (by rw[coordL_len];omega),if_pos (by omega),Int.toNat_natCast,hc,obs,if_pos (by omega),hd,obs,e2,w0,w2,w1 (by omega)]
  exact .inr ⟨hn,_,rfl,by rw[hrr];push_cast;rfl⟩
 ·have:k=l.length:=by omega
  subst this
  rw[if_neg (by rw[coordL_len];omega),List.drop_length];exact .inl rfl
theorem vd_true {l:List Int} (h:VD l):impl_ValidDims l=some true:=by
 obtain⟨b,e,v⟩:=iDims_out l
 rw[e,v.2 h]
theorem vd_prod {l:List Int} (h:VD l):prodW l=prodP l∧0≤prodP l∧prodP l≤600:=by
 have h1:=prodW_P h.1 h.2.1
 have h2:=prodP_nonneg (l:=l) fun x hx=>(h.2.1 x hx).1
 have h3:=h.2.2
 omega
theorem elems_out {l:List Int} (h:VD l):impl_ElementsOf l=some (prodP l):=by
 unfold impl_ElementsOf
 rw[vd_true h,obs,if_neg (not_not_intro rfl),iProd_out l (by have:=h.1;omega),obs,(vd_prod h).1]
theorem coords_at {l:List Int} (h:VD l) {i:Int} (hi:0≤i) (hp:i<prodP l):impl_CoordsOf l i=some (coordL l i):=by
 obtain⟨p1,p2,p3⟩:=vd_prod h
 have hpos:=prodP_pos (fun x hx=>(h.2.1 x hx).1) (show 0<prodP l by omega)
 have e:IntKind.i64.wrap (prodP l-1)=prodP l-1:=wrap_in (by omega) (by omega)
 unfold impl_CoordsOf impl_coordsOf coordS
 rw[vd_true h,obs,if_neg (not_not_intro rfl),iProd_out l (by have:=h.1;omega),obs,p1,e,within_out,obs,if_neg (by rw[decide_eq_true ⟨hi,by omega⟩];simp),if_pos ⟨hi,by omega,by have:=h.1;omega,hpos⟩,obs]
theorem coords_off {l:List Int} (h:VD l) {i:Int} (hp:i<0∨prodP l≤i):impl_CoordsOf l i=some []:=by
 obtain⟨p1,p2,p3⟩:=vd_prod h
 have e:IntKind.i64.wrap (prodP l-1)=prodP l-1:=wrap_in (by omega) (by omega)
 unfold impl_CoordsOf
 rw[vd_true h,obs,if_neg (not_not_intro rfl),iProd_out l (by have:=h.1;omega),obs,p1,e,within_out,obs,if_pos (by rw[decide_eq_false (by omega)];simp)]
theorem index_out {l:List Int} (h:VD l) {i:Int} (hi:0≤i) (hp:i<prodP l):impl_IndexOf l (coordL l i)=some i:=by
 obtain⟨p1,p2,p3⟩:=vd_prod h
 have hpos:=prodP_pos (fun x hx=>(h.2.1 x hx).1) (show 0<prodP l by omega)
 unfold impl_IndexOf
 rw[vd_true h,obs,if_neg (not_not_intro rfl),inDims_out hpos (fun x hx=>(h.2.1 x hx).2) h.1,obs,if_neg (not_not_intro rfl),indexI_out hpos h.1 hi (by omega) hp,obs]
end Go.Proofs.TM
