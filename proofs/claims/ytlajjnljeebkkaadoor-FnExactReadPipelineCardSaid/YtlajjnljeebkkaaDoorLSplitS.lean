import Derived.Test.YtlajjnljeebkkaaDoorLTxt
import Derived.Test.YtlajjnljeebkkaaDoorTSpl
namespace Go.Proofs.TM
open Go Go.Proofs
set_option maxHeartbeats 1000000
theorem spl_join (c:UInt8) (xs:List Str) (hne:xs≠[]) (h:∀ x∈xs,∀ b∈x,b≠c):spl c (Lib.join xs [c])=xs:=by
 induction xs with
 |nil=>exact absurd rfl hne
 |cons x r ih =>
  cases r with
  |nil=>rw[Lib.join_one,spl_miss c x (h x List.mem_cons_self)]
  |cons y t =>
   have e:Lib.join (x::y::t) [c]=x++c::Lib.join (y::t) [c]:=by
    rw[Lib.join_cons,Lib.join_cons];simp[Lib.joinTail]
   rw[e,spl_hit c _ _ (h x List.mem_cons_self),ih (by simp) (fun z hz=>h z (List.mem_cons_of_mem _ hz))]
theorem spl_len (c:UInt8) (s:Str):(spl c s).length≤s.length+1∧∀ x∈spl c s,x.length≤s.length:=by
 induction s with
 |nil=>simp[spl]
 |cons x r ih =>
  obtain⟨h1,h2⟩:=ih
  unfold spl
  split
  ·simp only[List.length_cons]
   exact⟨by omega,fun y hy=>by
    rcases List.mem_cons.1 hy with rfl |hy
    ·simp
    ·have:=h2 y hy;omega⟩
  ·obtain⟨h,t,e⟩:=spl_ne c r
   rw[e] at h1 h2 ⊢
   simp only[List.length_cons] at h1 ⊢
   exact⟨by omega,fun y hy=>by
    rcases List.mem_cons.1 hy with rfl |hy
    ·have:=h2 h List.mem_cons_self;simp only[List.length_cons];omega
    ·have:=h2 y (List.mem_cons_of_mem _ hy);omega⟩
theorem l05Split_out (s:Str) (c:UInt8) (h:s.length≤1048576):spec_l05Split s (c.toNat:Int)=some (spl c s):=by
 unfold spec_l05Split spec_l05Split_l1
 have key:=loop_ex (f:=fun t:List Str×Int×Int=>spec_l05Split_l1_b s (c.toNat:Int) t.1 t.2.1 t.2.2) (fun r=>∃ (o:List Str) (st:Nat),r=(s,o,(st:Int))∧st≤s.length∧o.length≤s.length∧o++[s.drop st]=spl c s) s.length
  (fun i t=>∃ (o:List Str) (st:Nat),t=(o,(st:Int),(i:Int))∧st≤i∧o.length≤i∧o++spl c (s.drop st)=spl c s∧∀ x∈(s.drop st).take (i-st),x≠c) (fun i t hi ht=>?_) s.length 0 ([],0,0) (by omega) ⟨[],0,rfl,by omega,by simp,by simp,by simp⟩
 ·obtain⟨r,hr,o,st,rfl,h1,h2,h3⟩:=key
  rw[hr,obs,subL_from s st h1,obs,appL_one 16 _ _ (by unfold maxRow;simp only;omega),obs]
  exact congrArg some h3
 ·obtain⟨o,st,rfl,h1,h2,h3,h4⟩:=ht
  unfold spec_l05Split_l1_b
  by_cases hn:i<s.length
  ·obtain⟨x,hx⟩:=get_at hn
   simp only
   have hd:s.drop st=(s.drop st).take (i-st)++x::s.drop (i+1):=by
    have e1:(s.drop st).drop (i-st)=x::s.drop (i+1):=by
     rw[List.drop_drop,show st+(i-st)=i by omega]
     exact List.drop_eq_getElem?_toList_append ▸ (by rw[hx];rfl)
    conv=>lhs;rw[← List.take_append_drop (i-st) (s.drop st),e1]
   rw[if_pos (by omega),if_pos (by omega),Int.toNat_natCast,hx,obs]
   by_cases hc:x=c
   ·subst hc
    rw[if_pos rfl,subL_mid s st i h1 (by omega),obs,appL_one 16 _ _ (by unfold maxRow;omega),obs,w1 (by omega)]
    refine .inr ⟨hn,_,rfl,o++[(s.take i).drop st],i+1,by simp,by omega,by simp;omega,?_,by simp⟩
    rw[← h3,hd,spl_hit x _ _ h4,List.append_assoc]
    rw[List.drop_take]
    rfl
   ·rw[if_neg (fun hh=>hc (by
     have:x.toNat=c.toNat:=by omega
     exact UInt8.toNat_inj.1 this)),w1 (by omega)]
    refine .inr ⟨hn,_,rfl,o,st,by simp,by omega,by omega,h3,fun y hy=>?_⟩
    rw[show i+1-st=(i-st)+1 by omega,List.take_add_one] at hy
    rcases List.mem_append.1 hy with hy |hy
    ·exact h4 y hy
    ·rw[List.getElem?_drop,show st+(i-st)=i by omega,hx] at hy
     simp at hy;subst hy;exact hc
  ·have:i=s.length:=by omega
   subst this
   simp only
   rw[if_neg (by omega)]
   refine .inl ⟨_,rfl,o,st,rfl,h1,h2,?_⟩
   rw[List.take_of_length_le (by rw[List.length_drop];omega)] at h4
   rw[← h3,spl_miss c _ h4]
def isD (b:UInt8):Prop:=48≤b.toNat∧b.toNat≤57
instance (b:UInt8):Decidable (isD b):=by unfold isD;infer_instance
def numF (l:Str):Nat:=l.foldl (fun a b=>10*a+(b.toNat-48)) 0
theorem numF_snoc (l:Str) (b:UInt8):numF (l++[b])=10*numF l+(b.toNat-48):=by unfold numF;rw[List.foldl_append];rfl
def num6 (l:Str):Int:=if 1≤l.length∧l.length≤6∧∀ b∈l,isD b then (numF l:Int) else -1
theorem l05Number_out (s:Str):spec_l05Number s=some (num6 s):=by
 unfold spec_l05Number num6
 by_cases h1:(s.length:Int)<1
 ·rw[if_pos h1,if_neg (by omega)]
 rw[if_neg h1]
 by_cases h6:(s.length:Int)>6
 ·rw[if_pos h6,if_neg (by omega)]
 rw[if_neg h6]
 unfold spec_l05Number_l1
 have key:=loop_ex (f:=fun t:Int×Int=>spec_l05Number_l1_b s t.1 t.2) (fun r=>(r=.inl (numF s:Int)∧∀ b∈s,isD b)∨(r=.inr (-1)∧¬∀ b∈s,isD b)) s.length
  (fun i t=>t=((numF (s.take i):Int),(i:Int))∧numF (s.take i)<10 ^ i∧∀ j,j<i→∀ b,s[j]?=some b→isD b) (fun i t hi ht=>?_) s.length 0 (0,0) (by omega) ⟨rfl,by simp[numF],fun j hj=>by omega⟩
 ·obtain⟨r,hr,hP⟩:=key
  rw[hr,obs]
  rcases hP with ⟨rfl,ha⟩ |⟨rfl,ha⟩
  ·rw[if_pos ⟨by omega,by omega,ha⟩];rfl
  ·rw[if_neg (fun h=>ha h.2.2)];rfl
 ·obtain⟨rfl,hlt,hall⟩:=ht
  unfold spec_l05Number_l1_b
  by_cases hn:i<s.length
  ·obtain⟨x,hx⟩:=get_at hn
   have hp:numF (s.take i)<1000000:=Nat.lt_of_lt_of_le hlt (Nat.le_trans (Nat.pow_le_pow_right (by omega) (show i≤6 by omega)) (by decide))
   simp only
   rw[if_pos (by omega),if_pos (by omega),Int.toNat_natCast,hx,obs]
   by_cases hd:isD x
   ·have hd1:=hd.1
    have hd2:=hd.2
    rw[if_neg (by omega),if_pos (by omega),obs,if_neg (by omega),if_pos (by omega),obs]
    have e1:IntKind.u8.wrap ((x.toNat:Int)-48)=((x.toNat-48:Nat):Int):=by
     have:IntKind.u8.wrap ((x.toNat:Int)-48)=(x.toNat:Int)-48:=by rw[IntKind.wrap_u8];omega
     rw[this];omega
    have e2:numF (s.take (i+1))=10*numF (s.take i)+(x.toNat-48):=by
     rw[List.take_add_one,hx];simp only[Option.toList_some];rw[numF_snoc]
    rw[e1,wrap_in (n:=10*(numF (s.take i):Int)) (by omega) (by omega),wrap_in (n:=((x.toNat-48:Nat):Int)) (by omega) (by omega),wrap_in (by omega) (by omega),w1 (by omega)]
    refine .inr ⟨hn,_,rfl,?_,?_,fun j hj b hb=>?_⟩
    ·rw[e2];push_cast;rfl
    ·rw[e2,Nat.pow_succ];omega
    ·by_cases hji:j=i
     ·subst hji;rw[hx] at hb;cases hb;exact hd
     ·exact hall j (by omega) b hb
   ·have hno:¬∀ b∈s,isD b:=fun h=>hd (h x (List.mem_of_getElem? hx))
    by_cases h48:(x.toNat:Int)<48
    ·rw[if_pos h48];exact .inl ⟨_,rfl,.inr ⟨rfl,hno⟩⟩
    ·rw[if_neg h48,if_pos (by omega),obs,if_pos (by unfold isD at hd;omega)];exact .inl ⟨_,rfl,.inr ⟨rfl,hno⟩⟩
  ·have:i=s.length:=by omega
   subst this
   simp only
   rw[if_neg (by omega),List.take_length]
   exact .inl ⟨_,rfl,.inl ⟨rfl,all_get.1 hall⟩⟩
theorem dec_dig (u:Nat):(∀ b∈Lib.decDigits u,isD b)∧numF (Lib.decDigits u)=u:=by
 induction u using Nat.strongRecOn with
 |_ u ih =>
  have hd:∀ k,k<10→(UInt8.ofNat (48+k)).toNat=48+k:=fun k hk=>by rw[UInt8.toNat_ofNat'];omega
  by_cases h:u<10
  ·rw[Lib.decDigits_one h]
   have:=hd u h
   refine⟨fun b hb=>?_,?_⟩
   ·simp only[List.mem_singleton] at hb;subst hb;unfold isD;omega
   ·show 10*0+((UInt8.ofNat (48+u)).toNat-48)=u;omega
  ·obtain⟨h1,h2⟩:=ih (u / 10) (by omega)
   have h3:=hd (u % 10) (by omega)
   rw[show Lib.decDigits u=Lib.decDigits (u / 10)++[UInt8.ofNat (48+u % 10)] by rw[Lib.decDigits,dif_neg h]]
   refine⟨fun b hb=>?_,?_⟩
   ·rcases List.mem_append.1 hb with hb |hb
    ·exact h1 b hb
    ·simp only[List.mem_singleton] at hb;subst hb;unfold isD;omega
   ·rw[numF_snoc,h2,h3];omega
theorem dec_len (k:Nat):∀ u,u<10 ^ (k+1)→1≤(Lib.decDigits u).length∧(Lib.decDigits u).length≤k+1:=by
 induction k with
 |zero=>intro u hu;rw[Lib.decDigits_one (by simpa using hu)];simp
 |succ k ih =>
  intro u hu
  by_cases h:u<10
  ·rw[Lib.decDigits_one h];simp
  ·rw[show Lib.decDigits u=Lib.decDigits (u / 10)++[UInt8.ofNat (48+u % 10)] by rw[Lib.decDigits,dif_neg h],List.length_append,List.length_singleton]
   have:=ih (u / 10) (by rw[Nat.pow_succ] at hu;omega)
   omega
theorem itoa_nat {n:Int} (h:0≤n):Lib.itoa n=Lib.decDigits n.toNat:=by unfold Lib.itoa;rw[if_neg (by omega)]
theorem num6_itoa (n:Int) (h0:0≤n) (h1:n≤999999):num6 (Lib.itoa n)=n:=by
 rw[itoa_nat h0]
 unfold num6
 have h6:(10:Nat) ^ (5+1)=1000000:=by decide
 have h2:=dec_len 5 n.toNat (by rw[h6];omega)
 rw[if_pos ⟨h2.1,h2.2,(dec_dig _).1⟩,(dec_dig _).2];omega
theorem itoa_dig {n:Int} (h0:0≤n):∀ b∈Lib.itoa n,isD b:=by rw[itoa_nat h0];exact (dec_dig _).1
end Go.Proofs.TM
