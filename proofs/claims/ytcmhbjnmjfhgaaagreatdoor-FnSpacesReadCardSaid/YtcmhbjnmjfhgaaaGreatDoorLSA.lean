import Derived.Test.YtcmhbjnmjfhgaaaGreatDoorTFun
import Derived.Test.YtcmhbjnmjfhgaaaGreatDoorSP2
import Derived.Test.YtcmhbjnmjfhgaaaGreatDoorTGlue
import Derived.Lib.ItoaLen
import Derived.Lib.Join
import Derived.Test.YtcmhbjnmjfhgaaaGreatDoorTTxt
import Derived.Lib.ParseIntBTie
import Derived.Lib.ParseIntBCases
import Derived.Test.YtcmhbjnmjfhgaaaGreatDoorTSpl
namespace Go.Proofs.TM
open Go Go.Proofs
theorem loop_some {σ ρ:Type} {f:σ→Option (σ ⊕ ρ)} {r:ρ} (n:Nat) (I:Nat→σ→Prop)
  (h:∀ i s,i≤n→I i s→f s=some (.inr r)∨(i<n∧∃ s',f s=some (.inl s')∧I (i+1) s')) :
  ∀ k i s,k+i=n→I i s→loopO f s=some r:=by
 intro k
 induction k with
 |zero =>
  intro i s hi hs
  rcases h i s (by omega) hs with h1 |⟨h1,_⟩
  ·rw[loopO_unfold,h1];rfl
  ·omega
 |succ k ih =>
  intro i s hi hs
  rcases h i s (by omega) hs with h1 |⟨h1,s',h2,h3⟩
  ·rw[loopO_unfold,h1];rfl
  ·rw[loopO_unfold,h2];exact ih (i+1) s' (by omega) h3
theorem loop_ex {σ ρ:Type} {f:σ→Option (σ ⊕ ρ)} (P:ρ→Prop) (n:Nat) (I:Nat→σ→Prop)
  (h:∀ i s,i≤n→I i s→(∃ r,f s=some (.inr r)∧P r)∨(i<n∧∃ s',f s=some (.inl s')∧I (i+1) s')) :
  ∀ k i s,k+i=n→I i s→∃ r,loopO f s=some r∧P r:=by
 intro k
 induction k with
 |zero =>
  intro i s hi hs
  rcases h i s (by omega) hs with ⟨r,h1,hp⟩ |⟨h1,_⟩
  ·exact⟨r,by rw[loopO_unfold,h1];rfl,hp⟩
  ·omega
 |succ k ih =>
  intro i s hi hs
  rcases h i s (by omega) hs with ⟨r,h1,hp⟩ |⟨h1,s',h2,h3⟩
  ·exact⟨r,by rw[loopO_unfold,h1];rfl,hp⟩
  ·obtain⟨r,hr,hp⟩:=ih (i+1) s' (by omega) h3
   exact⟨r,by rw[loopO_unfold,h2];exact hr,hp⟩
open Classical in
theorem loop_all {ρ:Type} (n:Nat) (p:Nat→Prop) (f:Int→Option (Int ⊕ ρ)) (rT rF:ρ)
  (h1:∀ i:Nat,i<n→p i→f (i:Int)=some (.inl ((i:Int)+1)))
  (h2:∀ i:Nat,i<n→¬p i→f (i:Int)=some (.inr rF))
  (h3:f (n:Int)=some (.inr rT)):loopO f 0=some (if ∀ i,i<n→p i then rT else rF):=by
 by_cases hp:∀ i,i<n→p i
 ·rw[if_pos hp]
  refine loop_some n (fun i s=>s=(i:Int)) (fun i s hi hs=>?_) n 0 0 (by omega) rfl
  subst hs
  by_cases hn:i<n
  ·exact .inr ⟨hn,_,h1 i hn (hp i hn),by omega⟩
  ·have:i=n:=by omega
   subst this;exact .inl h3
 ·rw[if_neg hp]
  refine loop_some n (fun i s=>s=(i:Int)∧∀ j,j<i→p j) (fun i s hi hs=>?_) n 0 0 (by omega) ⟨rfl,fun j hj=>by omega⟩
  obtain⟨rfl,hall⟩:=hs
  by_cases hn:i<n
  ·by_cases hpi:p i
   ·refine .inr ⟨hn,_,h1 i hn hpi,by omega,fun j hj=>?_⟩
    by_cases hji:j=i
    ·subst hji;exact hpi
    ·exact hall j (by omega)
   ·exact .inl (h2 i hn hpi)
  ·have:i=n:=by omega
   subst this;exact absurd hall hp
theorem all_get {α:Type} {l:List α} {P:α→Prop}:(∀ i,i<l.length→∀ x,l[i]?=some x→P x)↔∀ x∈l,P x:=by
 constructor
 ·intro h x hx
  obtain⟨i,hi,rfl⟩:=List.mem_iff_getElem.1 hx
  exact h i hi _ (List.getElem?_eq_getElem hi)
 ·intro h i hi x hx
  exact h x (List.mem_of_getElem? hx)
theorem loop_find {α ρ:Type} (l:List α) (p:α→Prop) (f:Int→Option (Int ⊕ (ρ ⊕ Int))) (rT:ρ)
  (h1:∀ (i:Nat) x,i<l.length→l[i]?=some x→p x→f (i:Int)=some (.inl ((i:Int)+1)))
  (h2:∀ (i:Nat) x,i<l.length→l[i]?=some x→¬p x→f (i:Int)=some (.inr (.inr (i:Int))))
  (h3:f (l.length:Int)=some (.inr (.inl rT))) :
  ∃ r,loopO f 0=some r∧((r=.inl rT∧∀ x∈l,p x)∨(∃ k:Int,r=.inr k∧0≤k∧¬∀ x∈l,p x)):=by
 refine loop_ex _ l.length (fun i s=>s=(i:Int)∧∀ j,j<i→∀ x,l[j]?=some x→p x) (fun i s hi hs=>?_) l.length 0 0 (by omega) ⟨rfl,fun j hj=>by omega⟩
 obtain⟨rfl,hall⟩:=hs
 by_cases hn:i<l.length
 ·obtain⟨x,hx⟩:∃ x,l[i]?=some x:=⟨_,List.getElem?_eq_getElem hn⟩
  by_cases hpi:p x
  ·refine .inr ⟨hn,_,h1 i x hn hx hpi,by omega,fun j hj y hy=>?_⟩
   by_cases hji:j=i
   ·subst hji;rw[hx] at hy;cases hy;exact hpi
   ·exact hall j (by omega) y hy
  ·refine .inl ⟨_,h2 i x hn hx hpi,.inr ⟨i,rfl,by omega,fun h=>hpi (h x (List.mem_of_getElem? hx))⟩⟩
 ·have:i=l.length:=by omega
  subst this
  exact .inl ⟨_,h3,.inl ⟨rfl,all_get.1 hall⟩⟩
open Classical in
theorem loop_eq {α ρ:Type} (l m:List α) (hl:l.length=m.length) (f:Int→Option (Int ⊕ ρ)) (rT rF:ρ)
  (h1:∀ (i:Nat) x,i<l.length→l[i]?=some x→m[i]?=some x→f (i:Int)=some (.inl ((i:Int)+1)))
  (h2:∀ (i:Nat) x y,i<l.length→l[i]?=some x→m[i]?=some y→¬x=y→f (i:Int)=some (.inr rF))
  (h3:f (l.length:Int)=some (.inr rT)):loopO f 0=some (if l=m then rT else rF):=by
 rw[loop_all l.length (fun i=>l[i]?=m[i]?) f rT rF ?_ ?_ h3]
 ·have:(∀ i,i<l.length→l[i]?=m[i]?)↔l=m:=by
   constructor
   ·intro h
    apply List.ext_getElem?
    intro j
    by_cases hj:j<l.length
    ·exact h j hj
    ·rw[List.getElem?_eq_none (by omega),List.getElem?_eq_none (by omega)]
   ·rintro rfl i hi;rfl
  simp only[this]
 ·intro i hi hp
  obtain⟨x,hx⟩:∃ x,l[i]?=some x:=⟨_,List.getElem?_eq_getElem hi⟩
  exact h1 i x hi hx (by rw[← hp,hx])
 ·intro i hi hp
  obtain⟨x,hx⟩:∃ x,l[i]?=some x:=⟨_,List.getElem?_eq_getElem hi⟩
  obtain⟨y,hy⟩:∃ y,m[i]?=some y:=⟨_,List.getElem?_eq_getElem (by omega)⟩
  exact h2 i x y hi hx hy (fun h=>hp (by rw[hx,hy,h]))
theorem wrap_in {n:Int} (h:-9223372036854775808≤n) (h':n≤9223372036854775807):IntKind.i64.wrap n=n:=by rw[IntKind.wrap_i64];omega
theorem get_at {α:Type} {l:List α} {i:Nat} (h:i<l.length):∃ x,l[i]?=some x:=⟨_,List.getElem?_eq_getElem h⟩
theorem mkL_ok {α:Type} (bs n:Nat) (z:α) (h:n*bs≤maxRow) (h':n≤maxRow):mkL bs (n:Int) (n:Int) z=some (List.replicate n z):=by
 unfold mkL;rw[if_pos ⟨by omega,rfl,by simpa using h,by simpa using h'⟩];simp
theorem appL_nil {α:Type} (bs:Nat) (l:List α) (h:l.length*(bs+1)≤maxRow):appL bs [] l=some l:=by
 unfold appL;rw[if_pos (by simpa using h)];simp
theorem w1 {i:Nat} (h:i<9223372036854775807):IntKind.i64.wrap ((i:Int)+1)=(i:Int)+1:=wrap_in (by omega) (by omega)
theorem dF {Q:Prop} {d:Decidable Q} (h:¬Q):some false=some (@decide Q d):=by rw[decide_eq_false h]
theorem dT {Q:Prop} {d:Decidable Q} (h:Q):some true=some (@decide Q d):=by rw[decide_eq_true h]
theorem dI {P Q:Prop} {d:Decidable P} {d':Decidable Q} (h:P↔Q):some (@decide P d)=some (@decide Q d'):=by
 by_cases hp:P
 ·rw[decide_eq_true hp,decide_eq_true (h.1 hp)]
 ·rw[decide_eq_false hp,decide_eq_false (fun q=>hp (h.2 q))]
theorem subL_from {α:Type} (s:List α) (k:Nat) (h:k≤s.length):subL s (some (k:Int)) none=some (s.drop k):=by
 simp[subL,bound,h]
theorem subL_to {α:Type} (s:List α) (k:Nat) (h:k≤s.length):subL s none (some (k:Int))=some (s.take k):=by
 simp[subL,bound,h]
theorem subL_mid {α:Type} (s:List α) (a b:Nat) (h:a≤b) (h':b≤s.length):subL s (some (a:Int)) (some (b:Int))=some ((s.take b).drop a):=by
 simp[subL,bound,h,h']
theorem l00In_out (n a b:Int):spec_l00In n a b=some (decide (a≤n∧n≤b)):=by
 unfold spec_l00In
 by_cases h:n≥a
 ·rw[if_pos h];exact dI ⟨fun k=>⟨h,k⟩,fun k=>k.2⟩
 ·rw[if_neg h];exact dF fun k=>h k.1
theorem within_out (n a b:Int):impl_within n a b=some (decide (a≤n∧n≤b)):=by
 unfold impl_within
 by_cases h:n≥a
 ·rw[if_pos h];exact dI ⟨fun k=>⟨h,k⟩,fun k=>k.2⟩
 ·rw[if_neg h];exact dF fun k=>h k.1
theorem join_snoc (xs:List Str) (y sep:Str):Lib.join (xs++[y]) sep=(if xs=[] then [] else Lib.join xs sep++sep)++y:=by
 cases xs with
 |nil=>simp[Lib.join_one]
 |cons x r=>rw[List.cons_append,Lib.join_cons,Lib.join_cons,if_neg (by simp)];simp[Lib.joinTail]
theorem join_le (B:Nat) (sep:Str) (xs:List Str) (h:∀ x∈xs,x.length≤B):(Lib.join xs sep).length≤xs.length*(B+sep.length):=by
 have ht:∀ r:List Str,(∀ x∈r,x.length≤B)→(Lib.joinTail sep r).length≤r.length*(B+sep.length):=by
  intro r
  induction r with
  |nil=>intro _;simp[Lib.joinTail]
  |cons y r ih =>
   intro hr
   have h1:=ih (fun x hx=>hr x (List.mem_cons_of_mem _ hx))
   have h2:=hr y List.mem_cons_self
   simp only[Lib.joinTail,List.map_cons,List.flatten_cons,List.length_append,List.length_cons] at h1 ⊢
   rw[Nat.succ_mul]
   omega
 cases xs with
 |nil=>simp[Lib.join_nil]
 |cons x r =>
  have h1:=ht r (fun x hx=>h x (List.mem_cons_of_mem _ hx))
  have h2:=h x List.mem_cons_self
  rw[Lib.join_cons,List.length_append,List.length_cons,Nat.succ_mul]
  omega
theorem loop_text {α γ:Type} (v:γ) (l:List α) (g:α→Str) (sep:Str) (B:Nat) (hB:∀ x∈l,(g x).length≤B) (f:γ×Str×Int→Option ((γ×Str×Int) ⊕ Str))
  (h1:∀ (i:Nat) x (a:Str),i<l.length→l[i]?=some x→a.length≤i*(B+sep.length)→f (v,a,(i:Int))=some (.inl (v,(if i=0 then [] else a++sep)++g x,(i:Int)+1)))
  (h2:∀ a:Str,f (v,a,(l.length:Int))=some (.inr a)):loopO f (v,[],0)=some (Lib.join (l.map g) sep):=by
 refine loop_some l.length (fun i s=>s.1=v∧s.2.2=(i:Int)∧s.2.1=Lib.join ((l.take i).map g) sep) (fun i s hi hs=>?_) l.length 0 _ (by omega) ⟨rfl,rfl,by simp[Lib.join_nil]⟩
 obtain⟨v',a,k⟩:=s
 obtain⟨rfl,rfl,ha⟩:=hs
 simp only at ha
 by_cases hn:i<l.length
 ·obtain⟨x,hx⟩:=get_at hn
  have hal:a.length≤i*(B+sep.length):=by
   have:=join_le B sep ((l.take i).map g) (fun y hy=>by obtain⟨z,hz,rfl⟩:=List.mem_map.1 hy;exact hB z (List.mem_of_mem_take hz))
   rw[List.length_map,List.length_take,Nat.min_eq_left hi] at this
   rw[ha];exact this
  refine .inr ⟨hn,_,h1 i x a hn hx hal,rfl,by simp,?_⟩
  rw[List.take_add_one,hx]
  simp only[Option.toList_some,List.map_append,List.map_cons,List.map_nil]
  rw[join_snoc,← ha]
  congr 1
  by_cases h0:i=0
  ·subst h0;simp
  ·rw[if_neg h0,if_neg (by intro hh;have:=congrArg List.length hh;rw[List.length_map,List.length_take,List.length_nil] at this;omega)]
 ·have:i=l.length:=by omega
  subst this
  refine .inl ?_
  rw[h2,ha,List.take_length]
theorem appL_one {β:Type} (bs:Nat) (l:List β) (x:β) (h:(l.length+1)*(bs+1)≤maxRow):appL bs l (lit [x])=some (l++[x]):=by
 unfold appL lit;rw[if_pos (by simpa using h)]
theorem itoa_le (n:Int) (h0:-9223372036854775808≤n) (h1:n≤9223372036854775807):(Lib.itoa n).length≤21:=Lib.itoa_length_le n h0 h1
theorem dig_toNat (k:Nat) (h:k<10):(UInt8.ofNat (48+k)).toNat=48+k:=by
 rw[UInt8.toNat_ofNat'];omega
theorem parseM_dec (r:List UInt8) (u:Nat):u≤2 ^ 64-1→Lib.parseUintM (2 ^ 64-1) 0 (Lib.decDigits u++r)=Lib.parseUintM (2 ^ 64-1) u r:=by
 induction u using Nat.strongRecOn generalizing r with
 |_ u ih =>
  intro hu
  by_cases h:u<10
  ·rw[Lib.decDigits_one h]
   simp only[List.cons_append,List.nil_append]
   rw[Lib.parseUintM,dig_toNat u h,if_pos (by omega),if_neg (by omega),if_neg (by omega)]
   congr 1;omega
  ·rw[show Lib.decDigits u=Lib.decDigits (u / 10)++[UInt8.ofNat (48+u % 10)] by rw[Lib.decDigits,dif_neg h],List.append_assoc,ih (u / 10) (by omega) _ (by omega)]
   simp only[List.cons_append,List.nil_append]
   rw[Lib.parseUintM,dig_toNat _ (by omega),if_pos (by omega),if_neg (by omega),if_neg (by omega)]
   congr 1;omega
theorem dec_ne (u:Nat):∃ (k:Nat) (t:List UInt8),k<10∧Lib.decDigits u=UInt8.ofNat (48+k)::t:=by
 induction u using Nat.strongRecOn with
 |_ u ih =>
  by_cases h:u<10
  ·exact⟨u,[],h,Lib.decDigits_one h⟩
  ·obtain⟨k,t,hk,e⟩:=ih (u / 10) (by omega)
   exact⟨k,t++[UInt8.ofNat (48+u % 10)],hk,by rw[Lib.decDigits,dif_neg h,e];rfl⟩
theorem parse_itoa (n:Int) (h0:-9223372036854775808≤n) (h1:n≤9223372036854775807):Lib.parseIntB 64 (Lib.itoa n)=.ok n:=by
 have hU:∀ u:Nat,u≤9223372036854775808→Lib.parseUintB 64 (Lib.decDigits u)=.ok u:=fun u hu=>by
  obtain⟨k,t,hk,e⟩:=dec_ne u
  unfold Lib.parseUintB
  rw[if_neg (by rw[e];simp),show Lib.decDigits u=Lib.decDigits u++[] by simp,parseM_dec [] u (by omega)]
  rfl
 unfold Lib.itoa
 by_cases hn:n<0
 ·rw[if_pos hn,Lib.parseIntB_minus,hU _ (by omega)]
  simp only[Lib.signedC]
  rw[if_neg (by omega)]
  congr 1;omega
 ·rw[if_neg hn]
  obtain⟨k,t,hk,e⟩:=dec_ne n.toNat
  have hk':=dig_toNat k hk
  have:=hU n.toNat (by omega)
  rw[e] at this ⊢
  rw[Lib.parseIntB_plain _ _ _ (by omega) (by omega),this]
  simp only[Lib.signlessC]
  rw[if_neg (by omega)]
  congr 1;omega
theorem rdecS_itoa (n:Int) (h0:-9223372036854775808≤n) (h1:n≤9223372036854775807):rdecS (Lib.itoa n)=some (n,true):=by
 unfold rdecS
 have:=Lib.itoa_length_le n h0 h1
 rw[if_pos (by omega),parse_itoa n h0 h1]
 simp
theorem rdecS_some (s:Str) (h:s.length≤140737488355328):∃ n b,rdecS s=some (n,b)∧(-9223372036854775808≤n∧n≤9223372036854775807)∧(b=true→s=Lib.itoa n):=by
 unfold rdecS
 rw[if_pos h]
 cases hp:Lib.parseIntB 64 s with
 |ok v =>
  have hv:=Lib.parseIntB_bounds hp
  exact⟨v,_,rfl,⟨by have:=hv.1;simp at this;omega,by have:=hv.2;simp at this;omega⟩,fun hb=>(of_decide_eq_true hb).symm⟩
 |«syntax»=>exact⟨0,false,rfl,by omega,fun hb=>by cases hb⟩
 |range =>
  refine⟨_,false,rfl,?_,fun hb=>by cases hb⟩
  unfold Lib.intSat
  split <;> omega
def isD (b:UInt8):Prop:=48≤b.toNat∧b.toNat≤57
instance (b:UInt8):Decidable (isD b):=by unfold isD;infer_instance
def numF (l:Str):Nat:=l.foldl (fun a b=>10*a+(b.toNat-48)) 0
theorem numF_snoc (l:Str) (b:UInt8):numF (l++[b])=10*numF l+(b.toNat-48):=by unfold numF;rw[List.foldl_append];rfl
theorem dec_dig (u:Nat):(∀ b∈Lib.decDigits u,isD b)∧numF (Lib.decDigits u)=u:=by
 induction u using Nat.strongRecOn with
 |_ u ih =>
  have hd:∀ k,k<10→(UInt8.ofNat (48+k)).toNat=48+k:=fun k hk=>by rw[UInt8.toNat_ofNat'];omega
  by_cases h:u<10
  ·rw[Lib.decDigits_one h]
   have:=hd u h
   refine⟨fun b hb=>?_,?_⟩
   ·simp only[List.mem_singleton] at hb;subst hb;unfold isD;omega
   ·show 10*0+((UInt8.ofNat (48+u)).toNat-48)=u;omega
  ·obtain⟨h1,h2⟩:=ih (u / 10) (by omega)
   have h3:=hd (u % 10) (by omega)
   rw[show Lib.decDigits u=Lib.decDigits (u / 10)++[UInt8.ofNat (48+u % 10)] by rw[Lib.decDigits,dif_neg h]]
   refine⟨fun b hb=>?_,?_⟩
   ·rcases List.mem_append.1 hb with hb |hb
    ·exact h1 b hb
    ·simp only[List.mem_singleton] at hb;subst hb;unfold isD;omega
   ·rw[numF_snoc,h2,h3];omega
theorem itoa_nat {n:Int} (h:0≤n):Lib.itoa n=Lib.decDigits n.toNat:=by unfold Lib.itoa;rw[if_neg (by omega)]
theorem itoa_dig {n:Int} (h0:0≤n):∀ b∈Lib.itoa n,isD b:=by rw[itoa_nat h0];exact (dec_dig _).1
abbrev DScan:=Str×Bool
def nc (b:UInt8):Prop:=isD b∨b.toNat=45
instance (b:UInt8):Decidable (nc b):=by unfold nc;infer_instance
theorem nc_out (b:UInt8):impl_scanner_number_c1 (b.toNat:Int)=some (decide (nc b)):=by
 unfold impl_scanner_number_c1 impl_isDigit
 by_cases h1:(b.toNat:Int)≥48
 ·rw[if_pos h1,obs]
  by_cases h2:(b.toNat:Int)≤57
  ·rw[if_pos (by simpa using h2)];exact dT (show nc b from .inl ⟨by omega,by omega⟩)
  ·rw[if_neg (by simpa using h2)]
   exact dI (by unfold nc isD;omega)
 ·rw[if_neg h1,obs,if_neg (by simp)]
  exact dI (by unfold nc isD;omega)
def spn:Str→Str×Str
 |[]=>([],[])
 |x::r=>if nc x then (x::(spn r).1,(spn r).2) else ([],x::r)
theorem spn_eq (r:Str):(spn r).1++(spn r).2=r∧(∀ b∈(spn r).1,nc b)∧∀ x t,(spn r).2=x::t→¬nc x:=by
 induction r with
 |nil=>exact⟨rfl,by simp[spn],by simp[spn]⟩
 |cons x r ih =>
  obtain⟨h1,h2,h3⟩:=ih
  unfold spn
  by_cases hx:nc x
  ·rw[if_pos hx]
   exact⟨by simp[h1],fun b hb=>by rcases List.mem_cons.1 hb with rfl |hb;exact hx;exact h2 b hb,h3⟩
  ·rw[if_neg hx]
   exact⟨rfl,by simp,fun y t e=>by cases e;exact hx⟩
theorem spn_of (a t:Str) (ha:∀ b∈a,nc b) (ht:∀ x r,t=x::r→¬nc x):spn (a++t)=(a,t):=by
 induction a with
 |nil =>
  cases t with
  |nil=>rfl
  |cons x r=>rw[List.nil_append,spn,if_neg (ht x r rfl)]
 |cons x a ih =>
  rw[List.cons_append,spn,if_pos (ha x List.mem_cons_self),ih (fun b hb=>ha b (List.mem_cons_of_mem _ hb))]
theorem take_of {a t s:Str} (h:a++t=s):s.take a.length=a:=by subst h;simp
theorem drop_of {a t s:Str} (h:a++t=s):s.drop a.length=t:=by subst h;simp
theorem while_out (s:Str) (b:Bool) (h:s.length≤1048576):impl_scanner_while_o53 (s,b)=some (((spn s).2,b),(spn s).1):=by
 obtain⟨h1,h2,h3⟩:=spn_eq s
 unfold impl_scanner_while_o53 impl_scanner_while_o53_l1
 have hl:(spn s).1.length≤s.length:=by have:=congrArg List.length h1;rw[List.length_append] at this;omega
 rw[loop_some (r:=((s,b),((spn s).1.length:Int))) (spn s).1.length (fun i k=>k=(i:Int)) (fun i k hi hk=>?_) (spn s).1.length 0 0 (by omega) rfl,obs,subL_to s _ hl,obs,subL_from s _ hl,obs]
 ·have e1:=take_of h1
  have e2:=drop_of h1
  rw[e1,e2]
 ·subst hk
  unfold impl_scanner_while_o53_l1_b
  simp only
  by_cases hn:i<(spn s).1.length
  ·obtain⟨x,hx⟩:=get_at hn
   have hx':s[i]?=some x:=by rw[← h1,List.getElem?_append_left hn,hx]
   rw[if_pos (by omega),if_pos (by omega),Int.toNat_natCast,hx',obs,nc_out,obs,if_pos (by simpa using h2 x (List.mem_of_getElem? hx)),w1 (by omega)]
   exact .inr ⟨hn,_,rfl,by omega⟩
  ·have hi:i=(spn s).1.length:=by omega
   refine .inl ?_
   by_cases hns:i<s.length
   ·obtain⟨x,hx⟩:=get_at hns
    have hq:(spn s).2[0]?=some x:=by
     have e:((spn s).1++(spn s).2)[i]?=s[i]?:=by rw[h1]
     rw[List.getElem?_append_right (by omega),show i-(spn s).1.length=0 by omega,hx] at e
     exact e
    have hnx:¬nc x:=by
     cases e:(spn s).2 with
     |nil=>rw[e] at hq;cases hq
     |cons y t=>rw[e] at hq;cases hq;exact h3 _ _ e
    rw[if_pos (by omega),if_pos (by omega),Int.toNat_natCast,hx,obs,nc_out,obs,if_neg (by simpa using hnx),hi]
   ·rw[if_neg (by omega),hi]
def In64 (n:Int):Prop:=-9223372036854775808≤n∧n≤9223372036854775807
theorem itoa_ne (n:Int):Lib.itoa n≠[]:=by
 unfold Lib.itoa
 split
 ·simp
 ·obtain⟨k,t,hk,e⟩:=dec_ne n.toNat;rw[e];simp
theorem number_out (s:Str) (b:Bool) (h:s.length≤1048576):∃ s' b' n,impl_scanner_number_od0 (s,b)=some ((s',b'),n)∧s'.length≤s.length∧In64 n∧(b'=true∨(b=false∧s'.length<s.length))∧(b=true→b'=true):=by
 obtain⟨h1,h2,h3⟩:=spn_eq s
 have hl:=congrArg List.length h1
 rw[List.length_append] at hl
 obtain⟨n,ok,hr,hin,hs⟩:=rdecS_some (spn s).1 (by omega)
 unfold impl_scanner_number_od0
 rw[while_out s b h,obs]
 have hr':impl_readDecimal (spn s).1=some (n,ok):=hr
 simp only
 rw[hr',obs]
 cases ok with
 |false=>exact⟨_,_,_,by rw[if_pos (by simp)],by omega,hin,.inl rfl,fun _=>rfl⟩
 |true =>
  refine⟨_,_,_,by rw[if_neg (by simp)],by omega,hin,?_,fun hb=>hb⟩
  cases b with
  |true=>exact .inl rfl
  |false =>
   refine .inr ⟨rfl,?_⟩
   have:(spn s).1.length≠0:=fun hh=>itoa_ne n ((hs rfl).symm.trans (List.eq_nil_of_length_eq_zero hh))
   omega
theorem nc_itoa {n:Int} (h:0≤n):∀ b∈Lib.itoa n,nc b:=fun b hb=>.inl (itoa_dig h b hb)
theorem number_itoa (n:Int) (t:Str) (b:Bool) (h0:0≤n) (hn:n≤9223372036854775807) (ht:∀ x r,t=x::r→¬nc x) (h:(Lib.itoa n++t).length≤1048576):impl_scanner_number_od0 (Lib.itoa n++t,b)=some ((t,b),n):=by
 unfold impl_scanner_number_od0
 rw[while_out _ b h,obs,spn_of _ t (nc_itoa h0) ht]
 have hr:impl_readDecimal (Lib.itoa n)=some (n,true):=rdecS_itoa n (by omega) hn
 simp only
 rw[hr,obs,if_neg (by simp)]
theorem accept_out (s t:Str) (b:Bool) (h:s.length≤1048576):impl_scanner_accept_o0b (s,b) t=some (if t.length≤s.length∧s.take t.length=t then ((s.drop t.length,b),true) else ((s,b),false)):=by
 unfold impl_scanner_accept_o0b strings_CutPrefix internal_stringslite_CutPrefix internal_stringslite_HasPrefix
 by_cases hl:t.length≤s.length
 ·rw[if_pos (by simp only;omega),subL_to s _ hl,obs,obs]
  by_cases he:s.take t.length=t
  ·rw[if_neg (by simp[he]),if_pos ⟨hl,he⟩,subL_from s _ hl];rfl
  ·rw[if_pos (by simpa using he),if_neg (fun hh=>he hh.2)];rfl
 ·rw[if_neg (by simp only;omega),if_neg (fun hh=>hl hh.1)];rfl
theorem accept_hit (t r:Str) (b:Bool) (h:(t++r).length≤1048576):impl_scanner_accept_o0b (t++r,b) t=some ((r,b),true):=by
 rw[accept_out _ _ _ h,if_pos ⟨by simp,by simp⟩];simp
theorem accept_miss (s t:Str) (b:Bool) (h:s.length≤1048576) (hm:s.take t.length≠t):impl_scanner_accept_o0b (s,b) t=some ((s,b),false):=by
 rw[accept_out _ _ _ h,if_neg (fun hh=>hm hh.2)]
theorem accept_any (s t:Str) (b:Bool) (h:s.length≤1048576):∃ s' k,impl_scanner_accept_o0b (s,b) t=some ((s',b),k)∧s'.length≤s.length:=by
 rw[accept_out _ _ _ h]
 split
 ·exact⟨_,_,rfl,by simp⟩
 ·exact⟨_,_,rfl,Nat.le_refl _⟩
theorem expect_any (s t:Str) (b:Bool) (h:s.length≤1048576):∃ s' b',impl_scanner_expect_o0b (s,b) t=some (s',b')∧s'.length≤s.length∧(b=true→b'=true):=by
 unfold impl_scanner_expect_o0b
 obtain⟨s',k,e,hl⟩:=accept_any s t b h
 rw[e,obs]
 cases k with
 |true=>exact⟨s',b,by simp,hl,fun hb=>hb⟩
 |false=>exact⟨s',true,by simp,hl,fun _=>rfl⟩
theorem expect_hit (t r:Str) (b:Bool) (h:(t++r).length≤1048576):impl_scanner_expect_o0b (t++r,b) t=some (r,b):=by
 unfold impl_scanner_expect_o0b
 rw[accept_hit t r b h,obs,if_neg (by simp)]
theorem digit_byte (k:Nat) (h:k<10):(((lit [(⟨UInt8.ofNat ((IntKind.u8.wrap ((IntKind.i64.wrap (48+(k:Int)))))).toNat⟩:Bt)]:List Bt)).map Bt.v)=[UInt8.ofNat (48+k)]:=by
 have:k=0∨k=1∨k=2∨k=3∨k=4∨k=5∨k=6∨k=7∨k=8∨k=9:=by omega
 rcases this with rfl |rfl |rfl |rfl |rfl |rfl |rfl |rfl |rfl |rfl <;> decide
theorem l05Digits_nat (u:Nat):(u:Int)≤9223372036854775807→∃ N,∀ n,N≤n→spec_l05Digits_it n (u:Int)=some (Lib.decDigits u):=by
 induction u using Nat.strongRecOn with
 |_ u ih =>
  intro hu
  by_cases h:u<10
  ·refine⟨1,fun n hn=>?_⟩
   obtain⟨n,rfl⟩:∃ m,n=m+1:=⟨n-1,by omega⟩
   show spec_l05Digits_W _ _=_
   unfold spec_l05Digits_W
   rw[if_neg (by omega),if_pos (by omega),digit_byte u h,Lib.decDigits_one h]
  ·obtain⟨N,hN⟩:=ih (u / 10) (by omega) (by omega)
   refine⟨N+1,fun n hn=>?_⟩
   obtain⟨n,rfl⟩:∃ m,n=m+1:=⟨n-1,by omega⟩
   show spec_l05Digits_W (spec_l05Digits_it n) _=_
   unfold spec_l05Digits_W
   have h1:Int.tdiv (u:Int) 10=((u / 10:Nat):Int):=by rw[Int.tdiv_eq_ediv_of_nonneg (by omega)];rfl
   have h2:Int.tmod (u:Int) 10=((u % 10:Nat):Int):=by rw[Int.tmod_eq_emod_of_nonneg (by omega)];rfl
   rw[if_neg (by omega),if_neg (by omega),h1,h2,wrap_in (by omega) (by omega),hN n (by omega),obs,digit_byte _ (by omega)]
   have h3:(Lib.decDigits (u / 10)).length≤21:=by
    have:=itoa_le ((u / 10:Nat):Int) (by omega) (by omega)
    rw[show Lib.itoa ((u / 10:Nat):Int)=Lib.decDigits (u / 10) by unfold Lib.itoa;rw[if_neg (by omega),Int.toNat_natCast]] at this
    exact this
   rw[if_pos (by simp only[List.length_cons,List.length_nil];omega)]
   rw[show Lib.decDigits u=Lib.decDigits (u / 10)++[UInt8.ofNat (48+u % 10)] by rw[Lib.decDigits,dif_neg h]]
theorem l05Digits_out (n:Int) (h0:-9223372036854775808<n) (h1:n≤9223372036854775807):spec_l05Digits n=some (Lib.itoa n):=by
 by_cases hn:n<0
 ·obtain⟨N,hN⟩:=l05Digits_nat n.natAbs (by omega)
  have hle:(Lib.decDigits n.natAbs).length≤21:=by
   have:=itoa_le n (by omega) h1
   unfold Lib.itoa at this;rw[if_pos hn,List.length_cons] at this;omega
  refine evO_mk (N+1) fun k hk=>?_
  obtain⟨k,rfl⟩:∃ m,k=m+1:=⟨k-1,by omega⟩
  show spec_l05Digits_W (spec_l05Digits_it k) _=_
  unfold spec_l05Digits_W
  rw[if_pos hn,wrap_in (by omega) (by omega),show (0:Int)-n=(n.natAbs:Int) by omega,hN k (by omega),obs,if_pos (by simp only[List.length_cons,List.length_nil];omega)]
  unfold Lib.itoa
  rw[if_pos hn];rfl
 ·obtain⟨N,hN⟩:=l05Digits_nat n.toNat (by omega)
  refine evO_mk N fun k hk=>?_
  have:=hN k hk
  rw[show ((n.toNat:Nat):Int)=n by omega] at this
  rw[this]
  unfold Lib.itoa;rw[if_neg hn]
theorem allWithin_out (x:List Int) (a b:Int) (h:x.length≤140737488355328):∃ c,impl_allWithin x a b=some c∧(c=true↔∀ y∈x,a≤y∧y≤b):=by
 unfold impl_allWithin slices_ContainsFunc_int64_int64__allWithin_c1 slices_IndexFunc_int64_int64__allWithin_c1 slices_IndexFunc_int64_int64__allWithin_c1_l1
 obtain⟨r,hr,hx⟩:=loop_find x (fun y=>a≤y∧y≤b) (fun s=>slices_IndexFunc_int64_int64__allWithin_c1_l1_b x a b (x.length:Int) s) () (fun k y hk hy hp=>by
  unfold slices_IndexFunc_int64_int64__allWithin_c1_l1_b impl_allWithin_c1
  rw[if_pos (by omega),if_pos (by omega),Int.toNat_natCast,hy,obs,within_out,obs,obs,if_neg (by simpa using hp),w1 (by omega)]) (fun k y hk hy hp=>by
  unfold slices_IndexFunc_int64_int64__allWithin_c1_l1_b impl_allWithin_c1
  rw[if_pos (by omega),if_pos (by omega),Int.toNat_natCast,hy,obs,within_out,obs,obs,if_pos (by rw[decide_eq_false hp];simp)]) (by simp[slices_IndexFunc_int64_int64__allWithin_c1_l1_b])
 rw[hr]
 rcases hx with ⟨rfl,hall⟩ |⟨k,rfl,hk,hn⟩
 ·exact⟨true,rfl,by simpa using hall⟩
 ·exact⟨false,by simp[hk],by simpa using hn⟩
def prodW (l:List Int):Int:=l.foldl (fun a x=>IntKind.i64.wrap (a*x)) 1
theorem prodW_snoc (l:List Int) (x:Int):prodW (l++[x])=IntKind.i64.wrap (prodW l*x):=by unfold prodW;rw[List.foldl_append];rfl
def VD (l:List Int):Prop:=l.length≤3∧(∀ x∈l,0≤x∧x≤40)∧prodW l≤600
theorem sDims_out (l:List Int):∃ b,spec_l05Dims l=some b∧(b=true↔VD l):=by
 unfold spec_l05Dims spec_l05Dims_l1 VD
 by_cases h3:(l.length:Int)>3
 ·rw[if_pos h3];exact⟨false,rfl,by simp;omega⟩
 rw[if_neg h3]
 have key:=loop_ex (f:=fun s:Int×Int=>spec_l05Dims_l1_b l s.1 s.2) (fun r=>(r=.inl (prodW l)∧∀ x∈l,0≤x∧x≤40)∨(r=.inr false∧¬∀ x∈l,0≤x∧x≤40)) l.length (fun i s=>s.2=(i:Int)∧s.1=prodW (l.take i)∧∀ j,j<i→∀ x,l[j]?=some x→0≤x∧x≤40) (fun i s hi hs=>?_) l.length 0 (1,0) (by omega) ⟨rfl,by simp[prodW],fun j hj=>by omega⟩
 ·obtain⟨r,hr,hP⟩:=key
  rw[hr,obs]
  rcases hP with ⟨rfl,ha⟩ |⟨rfl,ha⟩
  ·exact⟨_,rfl,by rw[decide_eq_true_eq];exact⟨fun h=>⟨by omega,ha,h⟩,fun h=>h.2.2⟩⟩
  ·exact⟨false,rfl,by simp only[Bool.false_eq_true,false_iff];exact fun h=>ha h.2.1⟩
 ·obtain⟨p,k⟩:=s
  obtain⟨rfl,rfl,hall⟩:=hs
  unfold spec_l05Dims_l1_b
  by_cases hn:i<l.length
  ·obtain⟨x,hx⟩:=get_at hn
   simp only
   rw[if_pos (by omega),if_pos (by omega),Int.toNat_natCast,hx,obs,l00In_out,obs]
   by_cases hp:0≤x∧x≤40
   ·rw[if_neg (by simpa using hp),if_pos (by omega),obs,w1 (by omega)]
    refine .inr ⟨hn,_,rfl,rfl,?_,fun j hj y hy=>?_⟩
    ·rw[List.take_add_one,hx];simp only[Option.toList_some];rw[prodW_snoc]
    ·by_cases hji:j=i
     ·subst hji;rw[hx] at hy;cases hy;exact hp
     ·exact hall j (by omega) y hy
   ·rw[if_pos (by rw[decide_eq_false hp];simp)]
    exact .inl ⟨_,rfl,.inr ⟨rfl,fun h=>hp (h x (List.mem_of_getElem? hx))⟩⟩
  ·have:i=l.length:=by omega
   subst this
   simp only
   rw[if_neg (by omega),List.take_length]
   exact .inl ⟨_,rfl,.inl ⟨rfl,all_get.1 hall⟩⟩
theorem iProd_out (l:List Int) (h:l.length≤1048576):impl_product l=some (prodW l):=by
 unfold impl_product impl_product_l1
 rw[loop_some (r:=prodW l) l.length (fun i s=>s.2=(i:Int)∧s.1=prodW (l.take i)) (fun i s hi hs=>?_) l.length 0 (1,0) (by omega) ⟨rfl,by simp[prodW]⟩]
 ·rfl
 ·obtain⟨p,k⟩:=s
  obtain⟨rfl,rfl⟩:=hs
  unfold impl_product_l1_b
  by_cases hn:i<l.length
  ·obtain⟨x,hx⟩:=get_at hn
   simp only
   rw[if_pos (by omega),if_pos (by omega),Int.toNat_natCast,hx,obs,w1 (by omega)]
   refine .inr ⟨hn,_,rfl,rfl,?_⟩
   rw[List.take_add_one,hx];simp only[Option.toList_some];rw[prodW_snoc]
  ·have:i=l.length:=by omega
   subst this
   simp only
   rw[if_neg (by omega),List.take_length]
   exact .inl rfl
theorem iDims_out (l:List Int):∃ b,impl_ValidDims l=some b∧(b=true↔VD l):=by
 unfold impl_ValidDims VD
 by_cases h3:(l.length:Int)≤3
 ·rw[if_pos h3]
  obtain⟨c,hc,hx⟩:=allWithin_out l 0 40 (by omega)
  rw[hc,obs]
  cases c with
  |false=>exact⟨false,by simp,by simp only[Bool.false_eq_true,false_iff] at hx ⊢;exact fun h=>hx h.2.1⟩
  |true =>
   rw[if_pos rfl,iProd_out l (by omega),obs]
   exact⟨_,rfl,by rw[decide_eq_true_eq];exact⟨fun h=>⟨by omega,hx.1 rfl,h⟩,fun h=>h.2.2⟩⟩
 ·rw[if_neg h3];exact⟨false,rfl,by simp only[Bool.false_eq_true,false_iff];exact fun h=>h3 (by omega)⟩
end Go.Proofs.TM
