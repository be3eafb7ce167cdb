import Derived.Test.YtlajjnljeebkkaaDoorLSrc
import Derived.Test.YtlajjnljeebkkaaDoorLDims
import Derived.Test.YtlajjnljeebkkaaDoorLTxt
namespace Go.Proofs.TM
open Go Go.Proofs
set_option maxHeartbeats 1000000
theorem textS_out (c:List Bt) (a s:Int) (l:List Str) (hl:0<l.length) (h0:0≤a) (h1:a≤999999):∃ a' s' x,spec_l00Src_text_o62 c a s l=some (c,a',s',l,x)∧(a≤a'∧a'≤a+2)∧x∈l:=by
 obtain⟨a',s',v,e,h2,h3,h4⟩:=pick_out c a s l.length h0 h1
 obtain⟨x,hx⟩:=get_at (l:=l) (i:=v.toNat) (by omega)
 refine⟨a',s',x,?_,h2,List.mem_of_getElem? hx⟩
 unfold spec_l00Src_text_o62
 rw[e,obs]
 simp only
 rw[if_pos (by omega),hx];rfl
def DD (l:List Int):Prop:=l.length≤3∧((∀ x∈l,0≤x∧x≤8)∨(l.length=1∧∀ x∈l,0≤x∧x≤40))
theorem DD.prod {l:List Int} (h:DD l):0≤prodW l∧prodW l≤512:=by
 obtain⟨h1,h2⟩:=h
 have wr:∀ z:Int,0≤z→z≤512→IntKind.i64.wrap z=z:=fun z a b=>wrap_in (by omega) (by omega)
 match l,h1 with
 |[],_=>exact⟨by decide,by decide⟩
 |[a],_ =>
  have:0≤a∧a≤40:=by rcases h2 with h |h;have:=h a (by simp);omega;exact h.2 a (by simp)
  have e:prodW [a]=IntKind.i64.wrap (1*a):=rfl
  rw[e,Int.one_mul,wr a (by omega) (by omega)];omega
 |[a,b],_ =>
  rcases h2 with h |h
  ·have ha:=h a (by simp)
   have hb:=h b (by simp)
   have e:prodW [a,b]=IntKind.i64.wrap (IntKind.i64.wrap (1*a)*b):=rfl
   have hab:0≤a*b∧a*b≤64:=⟨Int.mul_nonneg ha.1 hb.1,by have:=Int.mul_le_mul ha.2 hb.2 hb.1 (by omega:(0:Int)≤8);omega⟩
   rw[e,Int.one_mul,wr a (by omega) (by omega),wr _ (by omega) (by omega)];omega
  ·have:=h.1;simp at this
 |[a,b,c],_ =>
  rcases h2 with h |h
  ·have ha:=h a (by simp)
   have hb:=h b (by simp)
   have hc:=h c (by simp)
   have e:prodW [a,b,c]=IntKind.i64.wrap (IntKind.i64.wrap (IntKind.i64.wrap (1*a)*b)*c):=rfl
   have hab:0≤a*b∧a*b≤64:=⟨Int.mul_nonneg ha.1 hb.1,by have:=Int.mul_le_mul ha.2 hb.2 hb.1 (by omega:(0:Int)≤8);omega⟩
   have habc:0≤a*b*c∧a*b*c≤512:=⟨Int.mul_nonneg hab.1 hc.1,by have:=Int.mul_le_mul hab.2 hc.2 hc.1 (by omega:(0:Int)≤64);omega⟩
   rw[e,Int.one_mul,wr a (by omega) (by omega),wr (a*b) (by omega) (by omega),wr (a*b*c) (by omega) (by omega)];omega
  ·have:=h.1;simp at this
theorem DD.vd {l:List Int} (h:DD l):VD l :=
 ⟨h.1,fun x hx=>by rcases h.2 with g |g;have:=g x hx;omega;exact g.2 x hx,by have:=h.prod;omega⟩
theorem drwP2_out (c:List Bt) (a s k:Int) (l:List Int) (x:Int) (h:l.length≤1000):spec_l05Draw_o30_p2 c a s k l x=some (c,a,s,k,l++[x]):=by
 unfold spec_l05Draw_o30_p2
 rw[appL_one 8 _ _ (by unfold maxRow;omega),obs]
theorem drw_out (c:List Bt) (a s r:Int) (h0:0≤a) (h1:a≤900000) (hr:0≤r) (hr3:r≤3):∃ a' s' l,spec_l05Draw_o30 c a s r=some (c,a',s',l)∧(a≤a'∧a'≤a+30)∧DD l:=by
 unfold spec_l05Draw_o30 spec_l05Draw_o30_l1
 have key:=loop_ex (f:=fun t:List Bt×Int×Int×Int×List Int=>spec_l05Draw_o30_l1_b t.1 t.2.1 t.2.2.1 t.2.2.2.1 t.2.2.2.2) (fun q=>∃ a' s' l,q=(c,a',s',l)∧(a≤a'∧a'≤a+18)∧l.length≤3∧∀ x∈l,0≤x∧x≤8) r.toNat
  (fun i t=>∃ a' s' l,t=(c,a',s',r-i,l)∧(a≤a'∧a'≤a+6*i)∧l.length=i∧∀ x∈l,0≤x∧x≤8) (fun i t hi ht=>?_) r.toNat 0 (c,a,s,r,[]) (by omega) ⟨a,s,[],by simp,by omega,rfl,by simp⟩
 ·obtain⟨q,hq,a1,s1,l,rfl,ha1,hl,hx⟩:=key
  rw[hq,obs]
  simp only
  by_cases h1l:((l.length:Nat):Int)=1
  ·rw[if_pos h1l]
   obtain⟨a2,s2,b,e2,ha2⟩:=one_out c a1 s1 6 (by omega) (by omega)
   rw[e2,obs]
   cases b with
   |true =>
    simp only[if_true]
    obtain⟨a3,s3,x,e3,ha3,hx3⟩:=among_out c a2 s2 (lit [40,39,17]) (by unfold lit;simp) (by omega) (by omega)
    rw[e3,obs]
    simp only[if_true]
    obtain⟨y,rfl⟩:∃ y,l=[y]:=by
     match l,h1l with
     |[y],_=>exact⟨y,rfl⟩
     |_::_::_,h=>simp only[List.length_cons] at h;omega
    simp only[List.length_singleton,Int.toNat_zero,List.getElem?_cons_zero,obs]
    refine⟨a3,s3,[x],by simp,by omega,by simp,.inr ⟨rfl,fun z hz=>?_⟩⟩
    rw[List.mem_singleton] at hz
    subst hz
    unfold lit at hx3
    simp only[List.mem_cons,List.not_mem_nil,or_false] at hx3
    omega
   |false =>
    simp only[Bool.false_eq_true,if_false]
    exact⟨a2,s2,l,rfl,by omega,hl,.inl hx⟩
  ·rw[if_neg h1l];exact⟨a1,s1,l,rfl,by omega,hl,.inl hx⟩
 ·obtain⟨a1,s1,l,rfl,ha1,hl,hx⟩:=ht
  unfold spec_l05Draw_o30_l1_b
  simp only
  by_cases hn:i<r.toNat
  ·rw[if_pos (by omega)]
   obtain⟨a2,s2,v,e2,ha2,v0,v1⟩:=pick_out c a1 s1 6 (by omega) (by omega)
   rw[e2,obs]
   simp only
   obtain⟨a3,s3,b,e3,ha3⟩:=one_out c a2 s2 8 (by omega) (by omega)
   rw[e3,obs]
   cases b with
   |true =>
    simp only[if_true]
    obtain⟨a4,s4,u,e4,ha4,u0,u1⟩:=pick_out c a3 s3 9 (by omega) (by omega)
    rw[e4,obs]
    simp only
    rw[drwP2_out _ _ _ _ _ _ (by omega),obs]
    refine .inr ⟨hn,_,rfl,a4,s4,l++[u],?_,by omega,by simp[hl],fun x hm=>?_⟩
    ·simp only;rw[wrap_in (by omega) (by omega)];simp only[Prod.mk.injEq,true_and,and_true];omega
    ·rcases List.mem_append.1 hm with hm |hm
     ·exact hx x hm
     ·rw[List.mem_singleton] at hm;subst hm;omega
   |false =>
    simp only[Bool.false_eq_true,if_false]
    rw[drwP2_out _ _ _ _ _ _ (by omega),obs]
    refine .inr ⟨hn,_,rfl,a3,s3,l++[IntKind.i64.wrap (1+v)],?_,by omega,by simp[hl],fun x hm=>?_⟩
    ·simp only;rw[wrap_in (n:=r-i-1) (by omega) (by omega)];simp only[Prod.mk.injEq,true_and,and_true];omega
    ·rcases List.mem_append.1 hm with hm |hm
     ·exact hx x hm
     ·rw[List.mem_singleton,wrap_in (by omega) (by omega)] at hm;subst hm;omega
  ·rw[if_neg (by omega)]
   exact .inl ⟨_,rfl,a1,s1,l,rfl,by omega,by omega,hx⟩
theorem drwDims_out (c:List Bt) (a s:Int) (h0:0≤a) (h1:a≤800000):∃ a' s' l,spec_l05DrawDims_o9d c a s=some (c,a',s',l)∧(a≤a'∧a'≤a+40)∧DD l:=by
 unfold spec_l05DrawDims_o9d
 obtain⟨a1,s1,x,e1,ha1,hx⟩:=among_out c a s (lit [1,1,2,2,2,3,3,0]) (by unfold lit;simp) h0 (by omega)
 rw[e1,obs]
 simp only[if_true]
 unfold lit at hx
 simp only[List.mem_cons,List.not_mem_nil,or_false] at hx
 obtain⟨a2,s2,l,e2,ha2,hl⟩:=drw_out c a1 s1 x (by omega) (by omega) (by omega) (by omega)
 rw[e2,obs]
 exact⟨a2,s2,l,rfl,by omega,hl⟩
end Go.Proofs.TM
