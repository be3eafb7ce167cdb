import Derived.Test.YtlajjnljeebkkaaDoorLSplitS
import Derived.Test.YtlajjnljeebkkaaDoorLRdec
namespace Go.Proofs.TM
open Go Go.Proofs
set_option maxHeartbeats 1000000
abbrev DScan:=Str×Bool
def nc (b:UInt8):Prop:=isD b∨b.toNat=45
instance (b:UInt8):Decidable (nc b):=by unfold nc;infer_instance
theorem nc_out (b:UInt8):impl_scanner_number_c1 (b.toNat:Int)=some (decide (nc b)):=by
 unfold impl_scanner_number_c1 impl_isDigit
 by_cases h1:(b.toNat:Int)≥48
 ·rw[if_pos h1,obs]
  by_cases h2:(b.toNat:Int)≤57
  ·rw[if_pos (by simpa using h2)];exact dT (show nc b from .inl ⟨by omega,by omega⟩)
  ·rw[if_neg (by simpa using h2)]
   exact dI (by unfold nc isD;omega)
 ·rw[if_neg h1,obs,if_neg (by simp)]
  exact dI (by unfold nc isD;omega)
def spn:Str→Str×Str
 |[]=>([],[])
 |x::r=>if nc x then (x::(spn r).1,(spn r).2) else ([],x::r)
theorem spn_eq (r:Str):(spn r).1++(spn r).2=r∧(∀ b∈(spn r).1,nc b)∧∀ x t,(spn r).2=x::t→¬nc x:=by
 induction r with
 |nil=>exact⟨rfl,by simp[spn],by simp[spn]⟩
 |cons x r ih =>
  obtain⟨h1,h2,h3⟩:=ih
  unfold spn
  by_cases hx:nc x
  ·rw[if_pos hx]
   exact⟨by simp[h1],fun b hb=>by rcases List.mem_cons.1 hb with rfl |hb;exact hx;exact h2 b hb,h3⟩
  ·rw[if_neg hx]
   exact⟨rfl,by simp,fun y t e=>by cases e;exact hx⟩
theorem spn_of (a t:Str) (ha:∀ b∈a,nc b) (ht:∀ x r,t=x::r→¬nc x):spn (a++t)=(a,t):=by
 induction a with
 |nil =>
  cases t with
  |nil=>rfl
  |cons x r=>rw[List.nil_append,spn,if_neg (ht x r rfl)]
 |cons x a ih =>
  rw[List.cons_append,spn,if_pos (ha x List.mem_cons_self),ih (fun b hb=>ha b (List.mem_cons_of_mem _ hb))]
theorem take_of {a t s:Str} (h:a++t=s):s.take a.length=a:=by subst h;simp
theorem drop_of {a t s:Str} (h:a++t=s):s.drop a.length=t:=by subst h;simp
theorem while_out (s:Str) (b:Bool) (h:s.length≤1048576):impl_scanner_while_o53 (s,b)=some (((spn s).2,b),(spn s).1):=by
 obtain⟨h1,h2,h3⟩:=spn_eq s
 unfold impl_scanner_while_o53 impl_scanner_while_o53_l1
 have hl:(spn s).1.length≤s.length:=by have:=congrArg List.length h1;rw[List.length_append] at this;omega
 rw[loop_some (r:=((s,b),((spn s).1.length:Int))) (spn s).1.length (fun i k=>k=(i:Int)) (fun i k hi hk=>?_) (spn s).1.length 0 0 (by omega) rfl,obs,subL_to s _ hl,obs,subL_from s _ hl,obs]
 ·have e1:=take_of h1
  have e2:=drop_of h1
  rw[e1,e2]
 ·subst hk
  unfold impl_scanner_while_o53_l1_b
  simp only
  by_cases hn:i<(spn s).1.length
  ·obtain⟨x,hx⟩:=get_at hn
   have hx':s[i]?=some x:=by rw[← h1,List.getElem?_append_left hn,hx]
   rw[if_pos (by omega),if_pos (by omega),Int.toNat_natCast,hx',obs,nc_out,obs,if_pos (by simpa using h2 x (List.mem_of_getElem? hx)),w1 (by omega)]
   exact .inr ⟨hn,_,rfl,by omega⟩
  ·have hi:i=(spn s).1.length:=by omega
   refine .inl ?_
   by_cases hns:i<s.length
   ·obtain⟨x,hx⟩:=get_at hns
    have hq:(spn s).2[0]?=some x:=by
     have e:((spn s).1++(spn s).2)[i]?=s[i]?:=by rw[h1]
     rw[List.getElem?_append_right (by omega),show i-(spn s).1.length=0 by omega,hx] at e
     exact e
    have hnx:¬nc x:=by
     cases e:(spn s).2 with
     |nil=>rw[e] at hq;cases hq
     |cons y t=>rw[e] at hq;cases hq;exact h3 _ _ e
    rw[if_pos (by omega),if_pos (by omega),Int.toNat_natCast,hx,obs,nc_out,obs,if_neg (by simpa using hnx),hi]
   ·rw[if_neg (by omega),hi]
def In64 (n:Int):Prop:=-9223372036854775808≤n∧n≤9223372036854775807
theorem itoa_ne (n:Int):Lib.itoa n≠[]:=by
 unfold Lib.itoa
 split
 ·simp
 ·obtain⟨k,t,hk,e⟩:=dec_ne n.toNat;rw[e];simp
theorem number_out (s:Str) (b:Bool) (h:s.length≤1048576):∃ s' b' n,impl_scanner_number_od0 (s,b)=some ((s',b'),n)∧s'.length≤s.length∧In64 n∧(b'=true∨(b=false∧s'.length<s.length))∧(b=true→b'=true):=by
 obtain⟨h1,h2,h3⟩:=spn_eq s
 have hl:=congrArg List.length h1
 rw[List.length_append] at hl
 obtain⟨n,ok,hr,hin,hs⟩:=rdecS_some (spn s).1 (by omega)
 unfold impl_scanner_number_od0
 rw[while_out s b h,obs]
 have hr':impl_readDecimal (spn s).1=some (n,ok):=hr
 simp only
 rw[hr',obs]
 cases ok with
 |false=>exact⟨_,_,_,by rw[if_pos (by simp)],by omega,hin,.inl rfl,fun _=>rfl⟩
 |true =>
  refine⟨_,_,_,by rw[if_neg (by simp)],by omega,hin,?_,fun hb=>hb⟩
  cases b with
  |true=>exact .inl rfl
  |false =>
   refine .inr ⟨rfl,?_⟩
   have:(spn s).1.length≠0:=fun hh=>itoa_ne n ((hs rfl).symm.trans (List.eq_nil_of_length_eq_zero hh))
   omega
theorem nc_itoa {n:Int} (h:0≤n):∀ b∈Lib.itoa n,nc b:=fun b hb=>.inl (itoa_dig h b hb)
theorem number_itoa (n:Int) (t:Str) (b:Bool) (h0:0≤n) (hn:n≤9223372036854775807) (ht:∀ x r,t=x::r→¬nc x) (h:(Lib.itoa n++t).length≤1048576):impl_scanner_number_od0 (Lib.itoa n++t,b)=some ((t,b),n):=by
 unfold impl_scanner_number_od0
 rw[while_out _ b h,obs,spn_of _ t (nc_itoa h0) ht]
 have hr:impl_readDecimal (Lib.itoa n)=some (n,true):=rdecS_itoa n (by omega) hn
 simp only
 rw[hr,obs,if_neg (by simp)]
theorem accept_out (s t:Str) (b:Bool) (h:s.length≤1048576):impl_scanner_accept_o0b (s,b) t=some (if t.length≤s.length∧s.take t.length=t then ((s.drop t.length,b),true) else ((s,b),false)):=by
 unfold impl_scanner_accept_o0b strings_CutPrefix internal_stringslite_CutPrefix internal_stringslite_HasPrefix
 by_cases hl:t.length≤s.length
 ·rw[if_pos (by simp only;omega),subL_to s _ hl,obs,obs]
  by_cases he:s.take t.length=t
  ·rw[if_neg (by simp[he]),if_pos ⟨hl,he⟩,subL_from s _ hl];rfl
  ·rw[if_pos (by simpa using he),if_neg (fun hh=>he hh.2)];rfl
 ·rw[if_neg (by simp only;omega),if_neg (fun hh=>hl hh.1)];rfl
theorem accept_hit (t r:Str) (b:Bool) (h:(t++r).length≤1048576):impl_scanner_accept_o0b (t++r,b) t=some ((r,b),true):=by
 rw[accept_out _ _ _ h,if_pos ⟨by simp,by simp⟩];simp
theorem accept_miss (s t:Str) (b:Bool) (h:s.length≤1048576) (hm:s.take t.length≠t):impl_scanner_accept_o0b (s,b) t=some ((s,b),false):=by
 rw[accept_out _ _ _ h,if_neg (fun hh=>hm hh.2)]
theorem accept_any (s t:Str) (b:Bool) (h:s.length≤1048576):∃ s' k,impl_scanner_accept_o0b (s,b) t=some ((s',b),k)∧s'.length≤s.length:=by
 rw[accept_out _ _ _ h]
 split
 ·exact⟨_,_,rfl,by simp⟩
 ·exact⟨_,_,rfl,Nat.le_refl _⟩
theorem expect_any (s t:Str) (b:Bool) (h:s.length≤1048576):∃ s' b',impl_scanner_expect_o0b (s,b) t=some (s',b')∧s'.length≤s.length∧(b=true→b'=true):=by
 unfold impl_scanner_expect_o0b
 obtain⟨s',k,e,hl⟩:=accept_any s t b h
 rw[e,obs]
 cases k with
 |true=>exact⟨s',b,by simp,hl,fun hb=>hb⟩
 |false=>exact⟨s',true,by simp,hl,fun _=>rfl⟩
theorem expect_hit (t r:Str) (b:Bool) (h:(t++r).length≤1048576):impl_scanner_expect_o0b (t++r,b) t=some (r,b):=by
 unfold impl_scanner_expect_o0b
 rw[accept_hit t r b h,obs,if_neg (by simp)]
end Go.Proofs.TM
